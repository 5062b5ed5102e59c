import Derived.Test.YtoabhjflfbblfaaDoorNm
import Derived.Test.YtoabhjflfbblfaaDoorEngG
import Derived.Laws.RangeAny
import Derived.Lib.ItoaMem
import Derived.Shelf.LaysM
import Derived.Ground.NamesProg
import Derived.Test.YtoabhjflfbblfaaDoorProg
import Derived.Shelf.Strconv.Itoa3
import Derived.Lib.Walk
import Derived.Lib.Bytealg
import Derived.Lib.LaidTab
import Derived.Stop.LaidErr
import Derived.Deep.DeepHandedRow
/- Common ground for a seat's walks: integers, lists, texts. -/
namespace Go.Proofs.YtoabhjflfbblfaaDoor
open Eng
set_option maxRecDepth 10000
attribute [local irreducible] FnOk loopW idxF retX arrF

theorem w64 {x : Int} (h1 : -9223372036854775808 ≤ x) (h2 : x ≤ 9223372036854775807) : IntKind.i64.wrap x = x := by
  rw [IntKind.wrap_i64]; omega
abbrev I (n : Int) : SV := .one (.dv (.int .i64 n))
abbrev Bo (b : Bool) : SV := .one (.dv (.bool b))
abbrev Tx (s : ByteArray) : SV := .one (.dv (.str s))
theorem eqI {a b : Int} (h : a = b) : I a = I b := by rw [h]
theorem eqB {a b : Bool} (h : a = b) : Bo a = Bo b := by rw [h]
def encI (n : Int) : List DV := [.int .i64 n]
abbrev Li (xs : List Int) : SV := .one (.dv (.lst 1 (xs.map encI)))
theorem all_take {α : Type} {f : α → Bool} {xs : List α} {k : Nat} {x : α} (h : (xs.take k).all f = true) (hx : xs[k]? = some x) (hf : f x = true) : (xs.take (k + 1)).all f = true := by
  rw [List.take_add_one, hx]; simp [h, hf]
theorem all_not {α : Type} {f : α → Bool} {xs : List α} {k : Nat} {x : α} (hx : xs[k]? = some x) (hf : f x = false) : xs.all f = false := by
  rw [List.all_eq_false]; exact ⟨x, List.mem_of_getElem? hx, by simp [hf]⟩
theorem any_take {α : Type} {f : α → Bool} {xs : List α} {k : Nat} {x : α} (h : (xs.take k).any f = false) (hx : xs[k]? = some x) (hf : f x = false) : (xs.take (k + 1)).any f = false := by
  rw [List.take_add_one, hx]; simp [h, hf]
theorem any_yes {α : Type} {f : α → Bool} {xs : List α} {k : Nat} {x : α} (hx : xs[k]? = some x) (hf : f x = true) : xs.any f = true := by
  rw [List.any_eq_true]; exact ⟨x, List.mem_of_getElem? hx, hf⟩
theorem drop_cons {α : Type} {l : List α} {k : Nat} {x : α} (h : l[k]? = some x) : l.drop k = x :: l.drop (k + 1) := by
  obtain ⟨h1, h2⟩ := List.getElem?_eq_some_iff.1 h
  rw [List.drop_eq_getElem_cons h1, h2]
theorem take_same {α : Type} {xs ys : List α} {k : Nat} {x : α} (h : xs.take k = ys.take k) (hx : xs[k]? = some x) (hy : ys[k]? = some x) : xs.take (k + 1) = ys.take (k + 1) := by
  rw [List.take_add_one, List.take_add_one, hx, hy, h]
theorem ne_at {α : Type} {xs ys : List α} {k : Nat} {x y : α} (hx : xs[k]? = some x) (hy : ys[k]? = some y) (h : x ≠ y) : xs ≠ ys := by
  rintro rfl; rw [hx] at hy; injection hy; contradiction
theorem range_enc {α : Type} {f : Nat → α} {enc : α → List DV} {k : Nat} : ((List.range (k + 1)).map f).map enc = ((List.range k).map f).map enc ++ [enc (f k)] := by
  simp [List.range_succ]
theorem map_of {α : Type} {enc : α → List DV} : ∀ {rs : List (List DV)}, (∀ r ∈ rs, ∃ a, r = enc a) → ∃ xs : List α, rs = xs.map enc
  | [], _ => ⟨[], rfl⟩
  | r :: rs, h => by
    obtain ⟨a, ha⟩ := h r (by simp)
    obtain ⟨xs, hx⟩ := map_of (rs := rs) fun r hr => h r (by simp [hr])
    exact ⟨a :: xs, by rw [ha, hx]; rfl⟩
theorem all2_cons {α β : Type} {R : α → β → Prop} {a : α} {l : List α} {r : List β} (h : All2 R (a :: l) r) : ∃ b r', r = b :: r' ∧ R a b ∧ All2 R l r' := by
  cases r with
  | nil => exact h.elim
  | cons b r => exact ⟨b, r, rfl, h.1, h.2⟩
theorem all2_nil {α β : Type} {R : α → β → Prop} {r : List β} (h : All2 R [] r) : r = [] := by
  cases r with
  | nil => rfl
  | cons b r => exact h.elim
theorem own : ownKnob Tryd.prog.godebug = none := by kernel_rfl
theorem laid : laidOutB Tryd.prog = true := by kernel_rfl
theorem flatI (t : Nat) (xs : List Int) : FlatB (.rows t 1 (xs.map encI)) := by
  intro r hr d hd
  obtain ⟨x, _, rfl⟩ := List.mem_map.1 hr
  simp [encI] at hd; subst hd; trivial

/- numbers -/
theorem tmod_pos {x m : Int} (hm : 0 < m) : (x.tmod m < 0 → x.tmod m + m = x % m) ∧ (0 ≤ x.tmod m → x.tmod m = x % m) ∧ -m < x.tmod m ∧ x.tmod m < m := by
  have h1 := Int.tmod_eq_emod (a := x) (b := m)
  have h2 := Int.emod_nonneg x (b := m) (by omega)
  have h3 := Int.emod_lt_of_pos x hm
  have : (m.natAbs : Int) = m := by omega
  split at h1 <;> omega
end Go.Proofs.YtoabhjflfbblfaaDoor

/- Robots and scenes as data, and what the chapters 8 and 9 ask of them, in plain Lean. -/
namespace Go.Proofs.YtoabhjflfbblfaaDoor
open Eng
set_option maxRecDepth 10000

structure Vec where
  x : Int
  y : Int
  z : Int
deriving DecidableEq
structure Joint where
  name : ByteArray
  kind : Int
  parent : Int
  off : Vec
  lo : Int
  hi : Int
  weight : Int
  speed : Int
  accel : Int
  torque : Int
structure Mass where
  link : Int
  mass : Int
  point : Vec
structure Shape where
  link : Int
  radius : Int
  points : List Vec
structure Skip where
  a : Int
  b : Int
deriving DecidableEq
structure Robot where
  joints : List Joint
  masses : List Mass
structure Scene where
  robot : Robot
  shapes : List Shape
  skips : List Skip
structure Pair where
  a : Int
  b : Int
deriving DecidableEq
def encV (v : Vec) : List DV := [.int .i64 v.x, .int .i64 v.y, .int .i64 v.z]
def encJ (j : Joint) : List DV := [.str j.name, .int .i64 j.kind, .int .i64 j.parent, .int .i64 j.off.x, .int .i64 j.off.y, .int .i64 j.off.z, .int .i64 j.lo, .int .i64 j.hi, .int .i64 j.weight, .int .i64 j.speed, .int .i64 j.accel, .int .i64 j.torque]
def encM (m : Mass) : List DV := [.int .i64 m.link, .int .i64 m.mass, .int .i64 m.point.x, .int .i64 m.point.y, .int .i64 m.point.z]
def encSh (s : Shape) : List DV := [.int .i64 s.link, .int .i64 s.radius, .lst 3 (s.points.map encV)]
def encSk (s : Skip) : List DV := [.int .i64 s.a, .int .i64 s.b]
def encPa (s : Pair) : List DV := [.int .i64 s.a, .int .i64 s.b]
abbrev dJs (js : List Joint) : DV := .lst 12 (js.map encJ)
abbrev dMs (ms : List Mass) : DV := .lst 5 (ms.map encM)
abbrev dShs (ss : List Shape) : DV := .lst 3 (ss.map encSh)
abbrev dSks (ss : List Skip) : DV := .lst 2 (ss.map encSk)
abbrev Ro (r : Robot) : SV := .agg [.dv (dJs r.joints), .dv (dMs r.masses)]
abbrev Sc (s : Scene) : SV := .agg [.dv (dJs s.robot.joints), .dv (dMs s.robot.masses), .dv (dShs s.shapes), .dv (dSks s.skips)]
abbrev Ve (v : Vec) : SV := .agg [.dv (.int .i64 v.x), .dv (.int .i64 v.y), .dv (.int .i64 v.z)]

abbrev Ma (m : Mass) : SV := .agg [.dv (.int .i64 m.link), .dv (.int .i64 m.mass), .dv (.int .i64 m.point.x), .dv (.int .i64 m.point.y), .dv (.int .i64 m.point.z)]
abbrev Sh (s : Shape) : SV := .agg [.dv (.int .i64 s.link), .dv (.int .i64 s.radius), .dv (.lst 3 (s.points.map encV))]
abbrev dVs (l : List Vec) : DV := .lst 3 (l.map encV)
def small (s : Scene) : Prop := s.robot.joints.length ≤ 4611686018427387904 ∧ s.robot.masses.length ≤ 4611686018427387904 ∧ s.shapes.length ≤ 4611686018427387904 ∧ s.skips.length ≤ 4611686018427387904 ∧ ∀ x ∈ s.shapes, x.points.length ≤ 4611686018427387904

/- names -/
def letterB (c : Int) : Bool := decide (97 ≤ c) && decide (c ≤ 122)
def digitB (c : Int) : Bool := decide (48 ≤ c) && decide (c ≤ 57)
def nameB (i : Nat) (c : Int) : Bool := letterB c || (decide (i ≠ 0) && (digitB c || decide (c = 95)))
def worldT : ByteArray := ⟨#[119, 111, 114, 108, 100]⟩
def nameOk (s : ByteArray) : Bool := decide (1 ≤ s.size) && decide (s.size ≤ 16) && !decide (s = worldT) && (List.range s.size).all fun i => nameB i (byteAt s i)

/- joints -/
def find : List Joint → ByteArray → Nat → Int
  | [], _, _ => -1
  | j :: js, n, k => if j.name = n then k else find js n (k + 1)
def inV (v : Vec) (m : Int) : Bool := (decide (-m ≤ v.x) && decide (v.x ≤ m)) && (decide (-m ≤ v.y) && decide (v.y ≤ m)) && (decide (-m ≤ v.z) && decide (v.z ≤ m))
def reach (k : Int) : Int := if k = 1 ∨ k = 2 ∨ k = 3 then 524288 else if k = 4 ∨ k = 5 ∨ k = 6 then 4194304 else 0
def from1 (x m : Int) : Bool := decide (1 ≤ x) && decide (x ≤ m)
def jointErr (js : List Joint) (i : Nat) (j : Joint) : Int :=
  if nameOk j.name = false ∨ find js j.name 0 ≠ i then 802
  else if j.kind < 0 ∨ 6 < j.kind then 803
  else if j.parent < -1 ∨ (i : Int) ≤ j.parent then 804
  else if inV j.off 4194304 = false then 805
  else if j.hi < j.lo ∨ j.lo < - reach j.kind ∨ reach j.kind < j.hi then 806
  else if (from1 j.weight 1024 && from1 j.speed 1048576 && from1 j.accel 1048576 && from1 j.torque 1099511627776) = false then 807
  else 0
def jointsErr (js : List Joint) : Nat → List Joint → Int
  | _, [] => 0
  | i, j :: rest => if jointErr js i j = 0 then jointsErr js (i + 1) rest else jointErr js i j
def massOk (n : Nat) (m : Mass) : Bool := decide (0 ≤ m.link) && decide (m.link < n) && from1 m.mass 65536 && inV m.point 4194304
def checkRobot (r : Robot) : Int :=
  if r.joints.length = 0 ∨ 10 < r.joints.length then 801
  else if jointsErr r.joints 0 r.joints ≠ 0 then jointsErr r.joints 0 r.joints
  else if 32 < r.masses.length ∨ r.masses.all (massOk r.joints.length) = false then 808
  else 0
def linkOk (n : Nat) (k : Int) : Bool := decide (-1 ≤ k) && decide (k < n)
def shapeErr (n : Nat) (s : Shape) : Int :=
  if linkOk n s.link = false ∨ s.radius < 1 ∨ 1048576 < s.radius ∨ s.points.length < 1 ∨ 8 < s.points.length then 902
  else if s.points.all (inV · 4194304) = false then 805
  else 0
def shapesErr (n : Nat) : List Shape → Int
  | [] => 0
  | s :: rest => if shapeErr n s = 0 then shapesErr n rest else shapeErr n s
def skipOk (n : Nat) (k : Skip) : Bool := linkOk n k.a && linkOk n k.b
def checkScene (s : Scene) : Int :=
  if checkRobot s.robot ≠ 0 then checkRobot s.robot
  else if 24 < s.shapes.length then 901
  else if shapesErr s.robot.joints.length s.shapes ≠ 0 then shapesErr s.robot.joints.length s.shapes
  else if 64 < s.skips.length then 903
  else if (s.skips.all fun k => linkOk s.robot.joints.length k.a && linkOk s.robot.joints.length k.b) = false then 903
  else 0
end Go.Proofs.YtoabhjflfbblfaaDoor

/- Bytes and runes of texts. -/
namespace Go.Proofs.YtoabhjflfbblfaaDoor
open Eng
set_option maxRecDepth 10000
attribute [local irreducible] FnOk loopW idxF retX arrF

abbrev Ru (c : Int) : SV := .one (.dv (.int .i32 c))
abbrev By (c : Int) : SV := .one (.dv (.int .u8 c))
theorem byteAt_get {s : ByteArray} {i : Nat} (h : i < s.size) : byteAt s i = ((s[i]'h).toNat : Int) := by
  unfold byteAt; rw [getElem?_pos s i h]; rfl
theorem byteAt_bd (s : ByteArray) (i : Nat) : 0 ≤ byteAt s i ∧ byteAt s i < 256 := by
  unfold byteAt
  have := (s[i]?.getD 0).toNat_lt
  omega
end Go.Proofs.YtoabhjflfbblfaaDoor

/- Words of a description: the automaton, and token.Split. -/
namespace Go.Proofs.YtoabhjflfbblfaaDoor
open Eng
set_option maxRecDepth 10000
attribute [local irreducible] FnOk loopW idxF retX arrF

structure Word where
  text : ByteArray
  line : Int
  col : Int
def encW (w : Word) : List DV := [.str w.text, .int .i64 w.line, .int .i64 w.col]
abbrev dWs (l : List Word) : DV := .lst 3 (l.map encW)
abbrev bWs (l : List Word) : Box := .rows Y.Word 3 (l.map encW)
def wordB (c : Int) : Bool := decide (33 ≤ c) && decide (c ≤ 126) && !decide (c = 35)
structure SS where
  line : Int
  bgn : Int
  com : Bool
  ws : Int
  words : List Word
  bad : Bool
/-- the words, a word that is being read ended at i -/
def fin (s : ByteArray) (st : SS) (i : Nat) : List Word := if 0 ≤ st.ws then st.words ++ [⟨s.extract st.ws.toNat i, st.line, st.ws - st.bgn + 1⟩] else st.words
def stepS (s : ByteArray) (st : SS) (i : Nat) : SS :=
  if st.bad then st
  else if byteAt s i = 10 then ⟨st.line + 1, i + 1, false, -1, fin s st i, false⟩
  else if st.com then st
  else if byteAt s i = 32 ∨ byteAt s i = 9 then ⟨st.line, st.bgn, false, -1, fin s st i, false⟩
  else if byteAt s i = 35 then ⟨st.line, st.bgn, true, -1, fin s st i, false⟩
  else if wordB (byteAt s i) = false then ⟨st.line, st.bgn, false, st.ws, st.words, true⟩
  else if st.ws < 0 then ⟨st.line, st.bgn, false, i, st.words, false⟩
  else st
def autoAt (s : ByteArray) (k : Nat) : SS := (List.range k).foldl (stepS s) ⟨1, 0, false, -1, [], false⟩
theorem auto_succ (s : ByteArray) (k : Nat) : autoAt s (k + 1) = stepS s (autoAt s k) k := by
  unfold autoAt; rw [List.range_succ, List.foldl_append]; rfl
theorem auto_bad {s : ByteArray} {k : Nat} (h : (autoAt s k).bad = true) : ∀ d, autoAt s (k + d) = autoAt s k
  | 0 => rfl
  | d + 1 => by rw [← Nat.add_assoc, auto_succ, auto_bad h d, stepS, if_pos h]
structure Inv (st : SS) (k : Nat) : Prop where
  line1 : 1 ≤ st.line
  line2 : st.line ≤ k + 1
  bgn0 : 0 ≤ st.bgn
  bgn1 : st.bgn ≤ k
  ws0 : -1 ≤ st.ws
  ws1 : st.ws < k
  wsb : 0 ≤ st.ws → st.bgn ≤ st.ws
  len : st.words.length ≤ k
  com : st.com = true → st.ws = -1
theorem fin_len (s : ByteArray) (st : SS) (i : Nat) : (fin s st i).length ≤ st.words.length + 1 := by
  unfold fin; split <;> simp
theorem auto_inv (s : ByteArray) (k : Nat) : Inv (autoAt s k) k := by
  induction k with
  | zero => show Inv ⟨1, 0, false, -1, [], false⟩ 0; exact ⟨by decide, by decide, by decide, by decide, by decide, by decide, by decide, by decide, by decide⟩
  | succ k ih =>
    rw [auto_succ]
    have hf := fin_len s (autoAt s k) k
    obtain ⟨h1, h2, h3, h4, h5, h6, h7, h8, h9⟩ := ih
    generalize autoAt s k = st at *
    unfold stepS
    repeat' split
    all_goals first
      | exact ⟨by omega, by omega, by omega, by omega, by omega, by omega, by omega, by omega, h9⟩
      | exact ⟨by simp only; omega, by simp only; omega, by simp only; omega, by simp only; omega, by simp only; omega, by simp only; omega, by simp only; omega, by simp only; omega, by simp⟩
/-- what Split answers: the words, the error and its line -/
def splitOf (s : ByteArray) : List Word × Int × Int :=
  if 16384 < s.size then ([], 601, 0)
  else if (autoAt s s.size).bad then ([], 601, (autoAt s s.size).line)
  else (fin s (autoAt s s.size) s.size, 0, 0)
theorem wordB_low {c : Int} (h : wordB c = true) : c < 128 := by
  simp [wordB] at h; omega
theorem token_isWord (c : Int) : FnOk Tryd.prog F.token_isWord [Ru c] [] 0 (Bo (wordB c)) [] 0 := by
  refine fnOk tab mix G.token_isWord rfl rfl (by kernel_rfl) rfl rfl ?_
  repeat' ((conv => whnf); first | refine ask_m (fun h => ?_) (fun h => ?_) | refine ret0 ?_)
  all_goals exact ret_b (by by_cases h35 : c = 35 <;> first | (simp_all [wordB]; done) | (simp_all [wordB]; omega)) rfl
abbrev vI (n : Int) : Box := .vars Y.int [.dv (.int .i64 n)]
theorem token_Split_1 (s : ByteArray) (e : Nat) (st : SS) (he : e ≤ s.size) (hs : s.size ≤ 16384) (hi : Inv st e) : FnOk Tryd.prog F.token_Split_1 [I e, .one (.vptr 0 0), .one (.vptr 1 0), .one (.vptr 2 0), .one (.vptr 3 0), .one (.vptr 4 0)]
    [(0, vI st.ws), (1, .vars Y.s_Word [.row 5]), (2, .vars Y.string [.dv (.str s)]), (3, vI st.line), (4, vI st.bgn), (5, bWs st.words)] 6 (.tup [])
    [(0, vI (-1)), (1, .vars Y.s_Word [.row 6]), (2, .vars Y.string [.dv (.str s)]), (3, vI st.line), (4, vI st.bgn), (6, bWs (fin s st e))] 7 := by
  refine fnOk tab mix G.token_Split_1 rfl rfl (by kernel_rfl) rfl rfl ?_
  (conv => whnf)
  obtain ⟨h1, h2, h3, h4, h5, h6, h7, h8, h9⟩ := hi
  refine ask_m (fun h => ?_) (fun h => ?_)
  · have h : 0 ≤ st.ws := by simpa using h
    have hf : fin s st e = st.words ++ [⟨s.extract st.ws.toNat e, st.line, st.ws - st.bgn + 1⟩] := by rw [fin, if_pos h]
    (conv => whnf)
    refine ⟨⟨by omega, by omega, by omega⟩, ?_⟩
    (conv => whnf)
    rw [w64 (x := st.ws - st.bgn) (by omega) (by omega), w64 (x := st.ws - st.bgn + 1) (by omega) (by omega), Int.toNat_natCast]
    refine ⟨⟨by simp; omega, by simp; omega⟩, ?_⟩
    (conv => whnf)
    (conv => whnf)
    refine ret0 ?_
    refine ⟨[(6, 7)], ⟨rfl, trivial⟩, ⟨rfl, rfl, rfl, rfl, rfl, ?_, trivial⟩⟩
    rw [hf]
    show Box.rows Y.Word 3 _ = Box.rows Y.Word 3 _
    rw [List.map_append]; rfl
  · have h : ¬ 0 ≤ st.ws := by simpa using h
    have hf : fin s st e = st.words := by rw [fin, if_neg h]
    (conv => whnf)
    refine ret0 ?_
    rw [hf]
    exact ⟨[(6, 5)], ⟨rfl, trivial⟩, ⟨rfl, rfl, rfl, rfl, rfl, rfl, trivial⟩⟩
theorem dec_low {s : ByteArray} {i : Nat} (h : i < s.size) (hl : byteAt s i < 128) : Utf8.decode s i = ((byteAt s i).toNat, 1) := by
  have hb := byteAt_get h
  rw [decode_ascii s i h (by omega), hb]; rfl
theorem dec_high {s : ByteArray} {i : Nat} (h : i < s.size) (hl : 128 ≤ byteAt s i) : 128 ≤ (Utf8.decode s i).1 ∧ 1 ≤ (Utf8.decode s i).2 := by
  have hb := byteAt_get h
  exact decode_high s i h (by omega)
theorem get_byte {s : ByteArray} {i : Nat} (h : i < s.size) : ((s.get! i).toNat : Int) = byteAt s i := by
  have := get_at s i h
  rw [Nat.add_zero] at this
  rw [byteAt_get h, this]
/-- the bytes of a sign of several bytes are high -/
theorem dec_bytes {s : ByteArray} {i d : Nat} (h : i < s.size) (hd : d < (Utf8.decode s i).2) : i + d < s.size ∧ (1 ≤ d → 128 ≤ byteAt s (i + d)) := by
  have key : ∀ k, (decide (i + k < s.size) && (s.get! (i + k)).toNat / 64 == 2) = true → i + k < s.size ∧ (1 ≤ k → 128 ≤ byteAt s (i + k)) := fun k hk => by
    rw [Bool.and_eq_true] at hk
    have h1 : i + k < s.size := of_decide_eq_true hk.1
    have h2 : (s.get! (i + k)).toNat / 64 = 2 := by simpa using hk.2
    exact ⟨h1, fun _ => by rw [← get_byte h1]; omega⟩
  have k0 : i + 0 < s.size ∧ (1 ≤ 0 → 128 ≤ byteAt s (i + 0)) := ⟨h, fun h => by omega⟩
  simp only [Utf8.decode] at hd
  split at hd
  · simp only at hd; obtain rfl : d = 0 := by omega
    exact k0
  split at hd
  · rename_i hc
    rw [Bool.and_eq_true] at hc
    have hd : d < 2 := by split at hd <;> simp only at hd <;> omega
    rcases (show d = 0 ∨ d = 1 by omega) with rfl | rfl
    · exact k0
    · exact key 1 hc.2
  split at hd
  · rename_i hc
    rw [Bool.and_eq_true, Bool.and_eq_true] at hc
    have hd : d < 3 := by split at hd <;> simp only at hd <;> omega
    rcases (show d = 0 ∨ d = 1 ∨ d = 2 by omega) with rfl | rfl | rfl
    · exact k0
    · exact key 1 hc.1.2
    · exact key 2 hc.2
  split at hd
  · rename_i hc
    rw [Bool.and_eq_true, Bool.and_eq_true, Bool.and_eq_true] at hc
    have hd : d < 4 := by split at hd <;> simp only at hd <;> omega
    rcases (show d = 0 ∨ d = 1 ∨ d = 2 ∨ d = 3 by omega) with rfl | rfl | rfl | rfl
    · exact k0
    · exact key 1 hc.1.1.2
    · exact key 2 hc.1.2
    · exact key 3 hc.2
  · simp only at hd; obtain rfl : d = 0 := by omega
    exact k0
/-- a sign in a comment that ends no line changes nothing -/
theorem auto_skip {s : ByteArray} {k : Nat} (hk : k < s.size) (hb : (autoAt s k).bad = false) (hc : (autoAt s k).com = true) (h10 : byteAt s k ≠ 10) : ∀ d, d ≤ (Utf8.decode s k).2 → 1 ≤ (Utf8.decode s k).2 → autoAt s (k + d) = autoAt s k
  | 0, _, _ => rfl
  | d + 1, hd, h1 => by
    have ih := auto_skip hk hb hc h10 d (by omega) h1
    have hne : byteAt s (k + d) ≠ 10 := by
      rcases Nat.eq_zero_or_pos d with rfl | hp
      · exact h10
      · have := (dec_bytes hk (d := d) (by omega)).2 hp
        omega
    rw [← Nat.add_assoc, auto_succ, ih, stepS, if_neg (by rw [hb]; simp), if_neg hne, if_pos hc]
theorem dec_end {s : ByteArray} {k : Nat} (hk : k < s.size) (h1 : 1 ≤ (Utf8.decode s k).2) : k + (Utf8.decode s k).2 ≤ s.size := by
  have := (dec_bytes hk (d := (Utf8.decode s k).2 - 1) (by omega)).1
  omega
end Go.Proofs.YtoabhjflfbblfaaDoor

/- token.Split. -/
namespace Go.Proofs.YtoabhjflfbblfaaDoor
open Eng
set_option maxRecDepth 10000
attribute [local irreducible] FnOk loopW idxF retX arrF

abbrev vE (e l : Int) : Box := .vars Y.SourceError [.dv (.int .i64 e), .dv (.int .i64 l)]
abbrev SpR (r : List Word × Int × Int) : SV := .tup [(false, [.dv (dWs r.1)]), (true, [.dv (.int .i64 r.2.1), .dv (.int .i64 r.2.2)])]
abbrev FnS : SV := .one (.fn F.token_Split_1 [(5, 0), (2, 0), (0, 0), (3, 0), (4, 0)])
theorem token_Split (s : ByteArray) : FnOk Tryd.prog F.token_Split [Tx s] [] 0 (SpR (splitOf s)) [] 0 := by
  refine fnOk tab mix G.token_Split rfl rfl (by kernel_rfl) rfl rfl ?_
  (conv => whnf)
  refine ask_m (fun h => ?_) (fun h => ?_)
  · have h : 16384 < s.size := by simp at h; omega
    have e : splitOf s = ([], 601, 0) := by rw [splitOf, if_pos h]
    rw [e]
    (conv => whnf)
    refine retO [.own 2 Y.Word 3, .frz 2] ?_
    (conv => whnf)
    exact ⟨[], ⟨rfl, trivial⟩, trivial⟩
  have hs : ¬ 16384 < s.size := by simp at h; omega
  have hsp : splitOf s = if (autoAt s s.size).bad then ([], 601, (autoAt s s.size).line) else (fin s (autoAt s s.size) s.size, 0, 0) := by rw [splitOf, if_neg hs]
  (conv => whnf)
  refine loop_intro (fun p : Nat × SS => ⟨[(1, .one (.vptr 0 0)), (3, .one (.vptr 1 0)), (4, .one (.vptr 2 0)), (5, .one (.vptr 3 0)), (6, .one (.vptr 4 0)), (7, Bo p.2.com), (8, .one (.vptr 5 0)), (9, FnS), (18, .one (.vptr 6 0))],
    [(0, .vars Y.string [.dv (.str s)]), (1, vE 0 0), (2, .vars Y.s_Word [.row 7]), (3, vI p.2.line), (4, vI p.2.bgn), (5, vI p.2.ws), (6, .iter s p.1), (7, bWs p.2.words)], 8⟩)
    (fun p => p.1 ≤ s.size ∧ autoAt s p.1 = p.2 ∧ p.2.bad = false) (fun p => s.size - p.1) [.ownC 2 0 Y.Word 3] (0, ⟨1, 0, false, -1, [], false⟩) [] ⟨Nat.zero_le _, rfl, rfl⟩ ⟨⟨rfl, rfl, rfl, rfl, rfl, rfl, rfl, rfl, rfl, trivial⟩, ⟨rfl, rfl, rfl, rfl, rfl, rfl, rfl, rfl, trivial⟩⟩ ?_
  rintro ⟨k, st⟩ ⟨hk, hst, hbad⟩
  simp only at hk hst hbad
  have hi := auto_inv s k
  rw [hst] at hi
  (conv => whnf)
  refine ask_m (fun h => ?_) (fun h => ?_)
  · have hlt : k < s.size := of_decide_eq_true h
    have hstep := auto_succ s k
    have hskip := auto_skip (s := s) (k := k) hlt (by rw [hst]; exact hbad)
    have hend := dec_end (s := s) (k := k) hlt
    rw [hst] at hstep hskip
    rw [stepS, if_neg (by rw [hbad]; simp)] at hstep
    have F : (byteAt s k = ((Utf8.decode s k).1 : Int) ∧ (Utf8.decode s k).2 = 1) ∨ (128 ≤ byteAt s k ∧ 128 ≤ (Utf8.decode s k).1) := by
      by_cases hb : byteAt s k < 128
      · rw [dec_low hlt hb]; have := byteAt_bd s k; exact .inl ⟨by simp only; omega, rfl⟩
      · exact .inr ⟨by omega, (dec_high hlt (by omega)).1⟩
    have hw1 : 1 ≤ (Utf8.decode s k).2 := by
      by_cases hb : byteAt s k < 128
      · rw [dec_low hlt hb]; exact Nat.le_refl _
      · exact (dec_high hlt (by omega)).2
    have hkk : IntKind.i64.wrap ((k : Int) + 1) = ((k + 1 : Nat) : Int) := by rw [w64] <;> omega
    have hll : IntKind.i64.wrap (st.line + 1) = st.line + 1 := by rw [w64] <;> (have := hi.line1; have := hi.line2; omega)
    generalize ((Utf8.decode s k).1 : Nat) = c at *
    generalize (Utf8.decode s k).2 = w at *
    (conv => whnf)
    refine ask_m (fun h10 => ?_) (fun h10 => ?_)
    · have h10 : (c : Int) = 10 := by simpa using h10
      obtain ⟨hb, rfl⟩ : byteAt s k = 10 ∧ w = 1 := by omega
      rw [if_pos hb] at hstep
      (conv => whnf)
      refine call_i (token_Split_1 s k st hk (by omega) hi) ?_
      (conv => whnf)
      rw [hll, hkk]
      refine ⟨(k + 1, ⟨st.line + 1, k + 1, false, -1, fin s st k, false⟩), [(7, 8)], ⟨hlt, hstep, rfl⟩, by simp only; omega, ⟨⟨rfl, rfl, rfl, rfl, rfl, rfl, rfl, rfl, rfl, trivial⟩, ⟨rfl, rfl, rfl, rfl, rfl, rfl, rfl, rfl, trivial⟩⟩⟩
    have h10 : ¬ (c : Int) = 10 := by simpa using h10
    have hb10 : ¬ byteAt s k = 10 := by omega
    rw [if_neg hb10] at hstep
    (conv => whnf)
    refine ask_m (fun hcm => ?_) (fun hcm => ?_)
    · have hcm : st.com = true := hcm
      have e := hskip hcm hb10 w (Nat.le_refl _) hw1
      (conv => whnf)
      refine ⟨(k + w, st), [], ⟨hend hw1, e, hbad⟩, by simp only; omega, ⟨⟨rfl, rfl, rfl, rfl, rfl, rfl, rfl, rfl, rfl, trivial⟩, ⟨rfl, rfl, rfl, rfl, rfl, rfl, rfl, rfl, trivial⟩⟩⟩
    have hcm : st.com = false := hcm
    rw [if_neg (by rw [hcm]; simp)] at hstep
    (conv => whnf)
    have sp : ((c : Int) = 32 ∨ (c : Int) = 9) → w = 1 ∧ autoAt s (k + 1) = ⟨st.line, st.bgn, false, -1, fin s st k, false⟩ := fun hc => by
      have hb : byteAt s k = 32 ∨ byteAt s k = 9 := by omega
      rw [if_pos hb] at hstep
      exact ⟨by omega, hstep⟩
    refine ask_m (fun h32 => ?_) (fun h32 => ?_)
    · obtain ⟨rfl, e⟩ := sp (.inl (by simpa using h32))
      (conv => whnf)
      refine ask_mt h32 ?_
      (conv => whnf)
      refine call_i (token_Split_1 s k st hk (by omega) hi) ?_
      (conv => whnf)
      refine ⟨(k + 1, ⟨st.line, st.bgn, false, -1, fin s st k, false⟩), [(7, 8)], ⟨hlt, e, rfl⟩, by simp only; omega, ⟨⟨rfl, rfl, rfl, rfl, rfl, eqB hcm, rfl, rfl, rfl, trivial⟩, ⟨rfl, rfl, rfl, rfl, rfl, rfl, rfl, rfl, trivial⟩⟩⟩
    have h32 : ¬ (c : Int) = 32 := by simpa using h32
    (conv => whnf)
    refine ask_m (fun h9 => ?_) (fun h9 => ?_)
    · obtain ⟨rfl, e⟩ := sp (.inr (by simpa using h9))
      (conv => whnf)
      refine call_i (token_Split_1 s k st hk (by omega) hi) ?_
      (conv => whnf)
      refine ⟨(k + 1, ⟨st.line, st.bgn, false, -1, fin s st k, false⟩), [(7, 8)], ⟨hlt, e, rfl⟩, by simp only; omega, ⟨⟨rfl, rfl, rfl, rfl, rfl, eqB hcm, rfl, rfl, rfl, trivial⟩, ⟨rfl, rfl, rfl, rfl, rfl, rfl, rfl, rfl, trivial⟩⟩⟩
    have h9 : ¬ (c : Int) = 9 := by simpa using h9
    rw [if_neg (by omega)] at hstep
    (conv => whnf)
    refine ask_m (fun h35 => ?_) (fun h35 => ?_)
    · have h35 : (c : Int) = 35 := by simpa using h35
      obtain ⟨hb, rfl⟩ : byteAt s k = 35 ∧ w = 1 := by omega
      rw [if_pos hb] at hstep
      (conv => whnf)
      refine call_i (token_Split_1 s k st hk (by omega) hi) ?_
      (conv => whnf)
      refine ⟨(k + 1, ⟨st.line, st.bgn, true, -1, fin s st k, false⟩), [(7, 8)], ⟨hlt, hstep, rfl⟩, by simp only; omega, ⟨⟨rfl, rfl, rfl, rfl, rfl, rfl, rfl, rfl, rfl, trivial⟩, ⟨rfl, rfl, rfl, rfl, rfl, rfl, rfl, rfl, trivial⟩⟩⟩
    have h35 : ¬ (c : Int) = 35 := by simpa using h35
    rw [if_neg (by omega)] at hstep
    (conv => whnf)
    refine call_i (token_isWord c) ?_
    (conv => whnf)
    refine ask_m (fun hwd => ?_) (fun hwd => ?_)
    · have hwd : wordB c = false := by simpa using hwd
      have hb : wordB (byteAt s k) = false := by
        rcases hq : wordB (byteAt s k) with _ | _
        · rfl
        · have := wordB_low hq
          rw [show byteAt s k = (c : Int) by omega] at hq
          rw [hq] at hwd; contradiction
      rw [if_pos hb] at hstep
      have hB : (autoAt s (k + 1)).bad = true := by rw [hstep]
      have := auto_bad hB (s.size - (k + 1))
      rw [show k + 1 + (s.size - (k + 1)) = s.size by omega] at this
      rw [hsp, this, if_pos hB, hstep]
      (conv => whnf)
      refine retO [.own 2 Y.Word 3, .frz 8] ?_
      (conv => whnf)
      exact ⟨[], ⟨rfl, trivial⟩, trivial⟩
    have hwd : wordB c = true := by simpa using hwd
    have hc := wordB_low hwd
    obtain ⟨hb, rfl⟩ : byteAt s k = c ∧ w = 1 := by omega
    rw [if_neg (by rw [hb, hwd]; simp)] at hstep
    (conv => whnf)
    refine ask_m (fun hws => ?_) (fun hws => ?_)
    · have hws : st.ws < 0 := of_decide_eq_true hws
      rw [if_pos hws] at hstep
      (conv => whnf)
      refine ⟨(k + 1, ⟨st.line, st.bgn, false, k, st.words, false⟩), [], ⟨hlt, hstep, rfl⟩, by simp only; omega, ⟨⟨rfl, rfl, rfl, rfl, rfl, eqB hcm, rfl, rfl, rfl, trivial⟩, ⟨rfl, rfl, rfl, rfl, rfl, rfl, rfl, rfl, trivial⟩⟩⟩
    · have hws : ¬ st.ws < 0 := of_decide_eq_false hws
      rw [if_neg hws] at hstep
      (conv => whnf)
      refine ⟨(k + 1, st), [], ⟨hlt, hstep, hbad⟩, by simp only; omega, ⟨⟨rfl, rfl, rfl, rfl, rfl, rfl, rfl, rfl, rfl, trivial⟩, ⟨rfl, rfl, rfl, rfl, rfl, rfl, rfl, rfl, trivial⟩⟩⟩
  · have hk : k = s.size := by have := of_decide_eq_false h; omega
    subst hk
    rw [hst, if_neg (by rw [hbad]; simp)] at hsp
    (conv => whnf)
    refine call_i (token_Split_1 s s.size st (Nat.le_refl _) (by omega) hi) ?_
    (conv => whnf)
    rw [hsp]
    (conv => whnf)
    refine retO [.frz 8] ?_
    (conv => whnf)
    exact ⟨[], ⟨rfl, trivial⟩, trivial⟩
end Go.Proofs.YtoabhjflfbblfaaDoor

/- Words alike. -/
namespace Go.Proofs.YtoabhjflfbblfaaDoor
open Eng
set_option maxRecDepth 10000
attribute [local irreducible] FnOk loopW idxF retX arrF

deriving instance DecidableEq for Word
theorem cmp_mk_Same_Word : cmpB Tryd.prog 8 Y.Word = true ∧ Tryd.prog.eqGuardType Tryd.prog.depth Y.Word = false := ⟨by kernel_rfl, by kernel_rfl⟩
theorem mk_Same_Word (a b : List Word) (ha : a.length ≤ 4611686018427387904) (hb : b.length ≤ 4611686018427387904) : FnOk Tryd.prog F.mk_Same_api_Word [.one (.dv (.lst 3 (a.map encW))), .one (.dv (.lst 3 (b.map encW)))] [] 0 (Bo (decide (a = b))) [] 0 := by
  refine fnOk tab mix G.mk_Same_api_Word rfl rfl (by kernel_rfl) rfl rfl ?_
  (conv => whnf)
  refine ask_m (fun h => ?_) (fun h => ?_)
  · (conv => whnf)
    refine ret0 ?_
    refine ret_b (Eq.symm (decide_eq_false ?_)) rfl
    rintro rfl
    simp at h
  have hl : a.length = b.length := by simp at h; omega
  (conv => whnf)
  refine loop_intro (fun k : Nat => ⟨[(0, .one (.dv (.lst 3 (a.map encW)))), (1, .one (.dv (.lst 3 (b.map encW)))), (5, I k)], [], 0⟩) (fun k => k ≤ a.length ∧ a.take k = b.take k) (fun k => a.length - k) [] 0 [] ⟨Nat.zero_le _, rfl⟩ ⟨⟨rfl, rfl, rfl, trivial⟩, trivial⟩ ?_
  rintro k ⟨hk, hall⟩
  (conv => whnf)
  refine ask_m (fun h => ?_) (fun h => ?_)
  · have hlt : k < a.length := by simpa using h
    obtain ⟨x, hx⟩ : ∃ j, a[k]? = some j := ⟨_, List.getElem?_eq_getElem hlt⟩
    obtain ⟨y, hy⟩ : ∃ j, b[k]? = some j := ⟨_, List.getElem?_eq_getElem (by omega)⟩
    have hkk : IntKind.i64.wrap ((k : Int) + 1) = ((k + 1 : Nat) : Int) := by rw [w64] <;> omega
    (conv => whnf)
    refine idx_and (by omega) (by simpa using hx) ?_
    (conv => whnf)
    refine idx_and (by omega) (by simpa using hy) ?_
    (conv => whnf)
    refine ⟨cmp_mk_Same_Word, ?_⟩
    (conv => whnf)
    refine ask_m (fun h => ?_) (fun h => ?_)
    · (conv => whnf)
      refine ret0 ?_
      refine ret_b (Eq.symm (decide_eq_false (ne_at hx hy ?_))) rfl
      rintro rfl
      simp at h
    · skip
      have e : x = y := by
        cases x; cases y; simp at h; simp [h]
      subst e
      (conv => whnf)
      exact ⟨k + 1, [], ⟨hlt, take_same hall hx hy⟩, by omega, ⟨⟨rfl, rfl, eqI hkk, trivial⟩, trivial⟩⟩
  · have hk : k = a.length := by simp at h; omega
    subst hk
    rw [List.take_length, hl, List.take_length] at hall
    (conv => whnf)
    refine ret0 ?_
    exact ret_b (decide_eq_true hall).symm rfl

end Go.Proofs.YtoabhjflfbblfaaDoor

/- ref.Decimal. -/
namespace Go.Proofs.YtoabhjflfbblfaaDoor
open Eng
set_option maxRecDepth 10000
attribute [local irreducible] FnOk loopW idxF retX arrF

def dig (d : Nat) : ByteArray := ⟨#[(48 + d).toUInt8]⟩
/-- the last k digits of n -/
def decB : Nat → Nat → ByteArray
  | 0, _ => ByteArray.empty
  | k + 1, n => dig (n / 10 ^ k % 10) ++ decB k n
theorem dig_cut (d : Nat) (h : d < 10) : (ByteArray.mk #[48, 49, 50, 51, 52, 53, 54, 55, 56, 57]).extract d (d + 1) = dig d := by
  have h' : ∀ d, d < 10 → (ByteArray.mk #[48, 49, 50, 51, 52, 53, 54, 55, 56, 57]).extract d (d + 1) = dig d := by decide
  exact h' d h
theorem decB_size (k n : Nat) : (decB k n).size = k := by
  induction k with
  | zero => rfl
  | succ k ih => rw [decB, ByteArray.size_append, ih]; show 1 + k = k + 1; omega
theorem ref_Decimal (n k j : Nat) (hn : n ≤ 9223372036854775807) (h0 : n / 10 ^ j = 0) (h1 : k ≤ j) (hj : j ≤ 1000) (hmin : ∀ i, i < j → ¬ (n / 10 ^ i = 0 ∧ k ≤ i)) : FnOk Tryd.prog F.ref6_Decimal [I n, I k] [] 0 (Tx (decB j n)) [] 0 := by
  refine fnOk tab mix G.ref6_Decimal rfl rfl (by kernel_rfl) rfl rfl ?_
  (conv => whnf)
  refine loop_intro (fun i : Nat => ⟨[(0, I (n / 10 ^ i : Nat)), (1, I k), (5, Tx (decB i n))], [], 0⟩) (fun i => i ≤ j) (fun i => j - i) [] 0 [] (Nat.zero_le _) ⟨⟨eqI (by simp), rfl, rfl, trivial⟩, trivial⟩ ?_
  rintro i hi
  have hsz := decB_size i n
  have hlt : ¬ (n / 10 ^ i = 0 ∧ k ≤ i) → i < j := fun h => Nat.lt_of_le_of_ne hi fun e => h ⟨e ▸ h0, e ▸ h1⟩
  have hmin' := hmin i
  have hnext : n / 10 ^ (i + 1) = n / 10 ^ i / 10 := by rw [Nat.pow_succ, Nat.div_div_eq_div_mul]
  have hdec : decB (i + 1) n = dig (n / 10 ^ i % 10) ++ decB i n := rfl
  have hdiv : n / 10 ^ i ≤ n := Nat.div_le_self _ _
  generalize n / 10 ^ i = d at *
  have h3 : ((d : Nat) : Int).tmod 10 = ((d % 10 : Nat) : Int) := by rw [Int.tmod_eq_emod_of_nonneg (by omega)]; omega
  have h4 : IntKind.i64.wrap ((d : Int).tdiv 10) = ((d / 10 : Nat) : Int) := by rw [Int.tdiv_eq_ediv_of_nonneg (by omega), w64 (by omega) (by omega)]; omega
  have h5 : IntKind.i64.wrap (((d % 10 : Nat) : Int) + 1) = ((d % 10 + 1 : Nat) : Int) := by rw [w64 (by omega) (by omega)]; omega
  (conv => whnf)
  refine ask_m (fun h => ?_) (fun h => ?_)
  rotate_left
  (conv => whnf)
  refine ask_m (fun h => ?_) (fun h => ?_)
  rotate_left
  · have e : i = j := by
      rename_i h'
      simp at h h'
      exact Nat.le_antisymm hi (Nat.le_of_not_lt fun hij => hmin' hij ⟨by omega, by omega⟩)
    subst e
    (conv => whnf)
    refine ret0 ?_
    exact ret_dv rfl rfl
  all_goals
    have hij : i < j := hlt (by simp at h; omega)
    (conv => whnf)
    refine ⟨by omega, ?_⟩
    (conv => whnf)
    rw [h3, h5]
    refine ⟨⟨by omega, by omega, by show _ ≤ (10 : Int); omega⟩, ?_⟩
    (conv => whnf)
    rw [Int.toNat_natCast, Int.toNat_natCast, dig_cut _ (by omega)]
    refine ⟨by rw [hsz]; show 1 + i ≤ _; omega, ?_⟩
    (conv => whnf)
    refine ⟨by omega, ?_⟩
    (conv => whnf)
    refine ⟨i + 1, [], hij, by omega, ⟨⟨eqI (by rw [h4, hnext]), rfl, ?_, trivial⟩, trivial⟩⟩
    rw [hdec]; rfl
end Go.Proofs.YtoabhjflfbblfaaDoor

/- Digits of decimal texts. No program in sight. -/
namespace Go.Proofs.YtoabhjflfbblfaaDoor
open Eng
set_option maxRecDepth 10000

theorem byteAt_app {a b : ByteArray} {i : Nat} : byteAt (a ++ b) i = if i < a.size then byteAt a i else byteAt b (i - a.size) := by
  by_cases h1 : i < a.size
  · have h : i < (a ++ b).size := by rw [ByteArray.size_append]; omega
    rw [if_pos h1, byteAt_get h, byteAt_get h1, ByteArray.getElem_append_left h1]
  · rw [if_neg h1]
    by_cases h2 : i - a.size < b.size
    · have h : i < (a ++ b).size := by rw [ByteArray.size_append]; omega
      rw [byteAt_get h, byteAt_get h2, ByteArray.getElem_append_right (by omega)]
    · have g1 : ∀ (s : ByteArray) (k : Nat), s.size ≤ k → byteAt s k = 0 := fun s k hk => by
        unfold byteAt; rw [getElem?_neg s k (by omega)]; rfl
      rw [g1 _ _ (by rw [ByteArray.size_append]; omega), g1 _ _ (by omega)]
theorem dig_byte {d : Nat} (h : d < 10) : byteAt (dig d) 0 = 48 + d := by
  have : ∀ d, d < 10 → byteAt (dig d) 0 = 48 + (d : Int) := by decide
  exact this d h
theorem decB_byte (n : Nat) : ∀ (k i : Nat), i < k → byteAt (decB k n) i = 48 + (n / 10 ^ (k - 1 - i) % 10 : Nat)
  | 0, _, h => by omega
  | k + 1, i, h => by
    rw [decB, byteAt_app]
    have hs : (dig (n / 10 ^ k % 10)).size = 1 := rfl
    rw [hs]
    by_cases h0 : i < 1
    · obtain rfl : i = 0 := by omega
      rw [if_pos h0, dig_byte (by omega)]; simp
    · rw [if_neg h0, decB_byte n k (i - 1) (by omega)]
      rw [show k - 1 - (i - 1) = k + 1 - 1 - i by omega]
end Go.Proofs.YtoabhjflfbblfaaDoor

/- Bytes and texts as parameters; tables of texts. -/
namespace Go.Proofs.YtoabhjflfbblfaaDoor
open Eng
set_option maxRecDepth 10000

def encB (n : Int) : List DV := [.int .u8 n]
abbrev Lb (xs : List Int) : SV := .one (.dv (.lst 1 (xs.map encB)))
def bytesOk (xs : List Int) : Prop := xs.length ≤ 140737488351232 ∧ ∀ x ∈ xs, 0 ≤ x ∧ x < 256
theorem wf_u8 {a : Int} (h : (Lit.int .u8 a).wf = true) : 0 ≤ a ∧ a < 256 := by
  have h' : IntKind.u8.min ≤ a ∧ a ≤ IntKind.u8.max := by simpa [Lit.wf] using h
  have e1 : IntKind.u8.min = 0 := by decide
  have e2 : IntKind.u8.max = 255 := by decide
  omega
theorem tyB_uint8 {n : Nat} {ds : List DV} (h : Typed T (n + 1) Y.uint8 ds) : ∃ a, ds = encB a ∧ 0 ≤ a ∧ a < 256 := by
  obtain ⟨a, h1, h2⟩ := h
  exact ⟨a, h1, wf_u8 h2⟩
theorem tyB_s_uint8 {n : Nat} {ds : List DV} (h : Typed T (n + 2) Y.s_uint8 ds) : ∃ xs : List Int, ds = [.lst 1 (xs.map encB)] ∧ bytesOk xs := by
  obtain ⟨rs, h1, h2, _, h3⟩ := h
  have key : ∀ rs : List (List DV), (∀ r ∈ rs, Typed T (n + 1) Y.uint8 r) → ∃ xs : List Int, rs = xs.map encB ∧ ∀ x ∈ xs, 0 ≤ x ∧ x < 256 := by
    intro rs
    induction rs with
    | nil => intro _; exact ⟨[], rfl, by simp⟩
    | cons r rs ih =>
      intro h
      obtain ⟨a, e, ha⟩ := tyB_uint8 (h r (by simp))
      obtain ⟨xs, e', hx⟩ := ih fun r hr => h r (by simp [hr])
      exact ⟨a :: xs, by rw [e, e']; rfl, fun x hx' => by
        rcases List.mem_cons.1 hx' with rfl | hx'
        · exact ha
        · exact hx x hx'⟩
  obtain ⟨xs, rfl, hx⟩ := key rs h3
  refine ⟨xs, h1, ?_, hx⟩
  have : xs.length * 1 ≤ reachBytes := by simpa using h2
  unfold reachBytes at this; omega
theorem tyB_string {n : Nat} {ds : List DV} (h : Typed T (n + 1) Y.string ds) : ∃ s : ByteArray, ds = [.str s] ∧ s.size ≤ 140737488351232 := by
  obtain ⟨s, h1, h2⟩ := h
  refine ⟨s, h1, ?_⟩
  unfold reachBytes at h2; omega
/-- the text of a table -/
theorem arr_text {te : TI} {tb : List ByteArray} {i : Nat} {s : ByteArray} {k : SV → Prop} (ha : te.kind.agg = false) (hs : te.size = 1) (hc : tb[i]? = some s) (h : k (Tx s)) : arrF te (tb.map fun s => CV.dv (.str s)) i k :=
  arr_at ha hs (by rw [List.getElem?_map, hc]; rfl) h
/-- texts of a table, one behind the other -/
def cat (f : Int → ByteArray) (xs : List Int) : ByteArray := xs.foldl (fun s x => s ++ f x) ByteArray.empty
theorem cat_succ {f : Int → ByteArray} {xs : List Int} {k : Nat} {x : Int} (h : xs[k]? = some x) : cat f (xs.take (k + 1)) = cat f (xs.take k) ++ f x := by
  rw [List.take_add_one, h, cat, List.foldl_append]; rfl
theorem cat_size {f : Int → ByteArray} {c : Nat} (hf : ∀ x, (f x).size ≤ c) (xs : List Int) : (cat f xs).size ≤ xs.length * c := by
  have key : ∀ (xs : List Int) (s : ByteArray), (xs.foldl (fun s x => s ++ f x) s).size ≤ s.size + xs.length * c := by
    intro xs
    induction xs with
    | nil => intro s; simp
    | cons x xs ih =>
      intro s
      have := ih (s ++ f x)
      rw [ByteArray.size_append] at this
      have := hf x
      simp only [List.foldl_cons, List.length_cons, Nat.succ_mul]
      omega
  have := key xs ByteArray.empty
  simpa [cat] using this
theorem u8mod {x m : Int} (h0 : 0 ≤ x) (hm : 0 < m) : x.tmod m = x % m := Int.tmod_eq_emod_of_nonneg h0
end Go.Proofs.YtoabhjflfbblfaaDoor

/- The reference's numbers and names as words: ref.Format, written, kindName, linkName. -/
namespace Go.Proofs.YtoabhjflfbblfaaDoor
open Eng
set_option maxRecDepth 10000
attribute [local irreducible] FnOk loopW idxF retX arrF

/-- how many digits a number has, at least k -/
def dl : Nat → Nat → Nat → Nat
  | 0, _, _ => 0
  | f + 1, n, k => if n = 0 ∧ k = 0 then 0 else dl f (n / 10) (k - 1) + 1
theorem dl_spec : ∀ (f n k : Nat), n < 10 ^ f → k ≤ f → n / 10 ^ dl f n k = 0 ∧ k ≤ dl f n k ∧ dl f n k ≤ f ∧ ∀ i, i < dl f n k → ¬ (n / 10 ^ i = 0 ∧ k ≤ i)
  | 0, n, k, hn, hk => by
    have : n = 0 := by simpa using hn
    subst this
    exact ⟨by simp, hk, Nat.le_refl _, fun i hi => absurd hi (Nat.not_lt_zero _)⟩
  | f + 1, n, k, hn, hk => by
    rw [dl]
    split
    · rename_i h
      exact ⟨by simp [h.1], by omega, by omega, fun i hi => absurd hi (Nat.not_lt_zero _)⟩
    · rename_i h
      obtain ⟨a, b, c, d⟩ := dl_spec f (n / 10) (k - 1) (by rw [Nat.pow_succ] at hn; omega) (by omega)
      have e : ∀ i, n / 10 ^ (i + 1) = n / 10 / 10 ^ i := fun i => by rw [Nat.pow_succ', Nat.div_div_eq_div_mul]
      refine ⟨by rw [e]; exact a, by omega, by omega, fun i hi => ?_⟩
      cases i with
      | zero => rintro ⟨h1, h2⟩; exact h ⟨by simpa using h1, by omega⟩
      | succ i => rintro ⟨h1, h2⟩; rw [e] at h1; exact d i (by omega) ⟨h1, by omega⟩
def decT (n k : Nat) : ByteArray := decB (dl 20 n k) n
theorem dl20 {n k : Nat} (hn : n ≤ 9223372036854775807) (hk : k ≤ 20) : n / 10 ^ dl 20 n k = 0 ∧ k ≤ dl 20 n k ∧ dl 20 n k ≤ 20 ∧ ∀ i, i < dl 20 n k → ¬ (n / 10 ^ i = 0 ∧ k ≤ i) :=
  dl_spec 20 n k (Nat.lt_of_le_of_lt hn (by decide)) hk
theorem decT_size {n k : Nat} (hn : n ≤ 9223372036854775807) (hk : k ≤ 20) : (decT n k).size ≤ 20 ∧ k ≤ (decT n k).size := by
  obtain ⟨_, b, c, _⟩ := dl20 hn hk
  rw [decT, decB_size]; exact ⟨c, b⟩
theorem ref_DecimalT (n k : Nat) (hn : n ≤ 9223372036854775807) (hk : k ≤ 20) : FnOk Tryd.prog F.ref6_Decimal [I n, I k] [] 0 (Tx (decT n k)) [] 0 := by
  obtain ⟨a, b, c, d⟩ := dl20 hn hk
  exact ref_Decimal n k _ hn a b (by omega) d
/-- without the zeros at the end -/
def trimN (t : ByteArray) : Nat → Nat
  | 0 => 0
  | n + 1 => if byteAt t n = 48 then trimN t n else n + 1
theorem trimN_le (t : ByteArray) : ∀ n, trimN t n ≤ n
  | 0 => Nat.le_refl _
  | n + 1 => by
    rw [trimN]; split
    · have := trimN_le t n; omega
    · exact Nat.le_refl _
def minusT : ByteArray := ⟨#[45]⟩
def dotT : ByteArray := ⟨#[46]⟩
def clampI (n : Int) : Int := max (-2147483648) (min n 2147483648)
def fracT (f : Nat) : ByteArray := (decT ((2 * f * 100000 + 65536) / 131072) 5).extract 0 (trimN (decT ((2 * f * 100000 + 65536) / 131072) 5) (decT ((2 * f * 100000 + 65536) / 131072) 5).size)
def fmtS (s : ByteArray) (a : Nat) : ByteArray := if a % 65536 = 0 then s ++ decT (a / 65536) 1 else ((s ++ decT (a / 65536) 1) ++ dotT) ++ fracT (a % 65536)
def fmtT (n : Int) : ByteArray := fmtS (if clampI n < 0 then minusT else ByteArray.empty) (clampI n).natAbs
theorem digs_zero (n : Nat) : ∀ k, (∀ i, i < k → n / 10 ^ i % 10 = 0) → n % 10 ^ k = 0
  | 0, _ => by simp [Nat.mod_one]
  | k + 1, h => by
    rw [Nat.mod_pow_succ, digs_zero n k fun i hi => h i (by omega), h k (by omega), Nat.mul_zero]
theorem decT_some {v : Nat} (h1 : 1 ≤ v) (h2 : v ≤ 99999) : ∃ i, i < (decT v 5).size ∧ byteAt (decT v 5) i ≠ 48 := by
  obtain ⟨a, b, c, d⟩ := dl20 (n := v) (k := 5) (by omega) (by omega)
  rw [decT, decB_size]
  generalize dl 20 v 5 = j at *
  by_cases hex : ∃ i, i < j ∧ v / 10 ^ i % 10 ≠ 0
  · obtain ⟨i, hi, hne⟩ := hex
    refine ⟨j - 1 - i, by omega, ?_⟩
    rw [decB_byte v j _ (by omega), show j - 1 - (j - 1 - i) = i by omega]
    omega
  · have := digs_zero v j fun i hi => Classical.byContradiction fun hne => hex ⟨i, hi, hne⟩
    have hlt : v < 10 ^ j := by
      rcases Nat.lt_or_ge v (10 ^ j) with h | h
      · exact h
      · have := Nat.div_pos h (Nat.pow_pos (by decide : 0 < 10)); omega
    rw [Nat.mod_eq_of_lt hlt] at this
    omega
theorem ext_byte {t : ByteArray} {k i : Nat} (hk : k ≤ t.size) (hi : i < k) : byteAt (t.extract 0 k) i = byteAt t i := by
  have hs : (t.extract 0 k).size = k := by simp; omega
  rw [byteAt_get (by omega), byteAt_get (by omega : i < t.size), ByteArray.getElem_extract]
  congr 2
  simp
theorem ext_ext {t : ByteArray} {k j : Nat} (hk : j ≤ k) (hk2 : k ≤ t.size) : (t.extract 0 k).extract 0 j = t.extract 0 j := by
  rw [ByteArray.extract_extract]; congr 1; omega
theorem ref_Format (n : Int) : FnOk Tryd.prog F.ref6_Format [I n] [] 0 (Tx (fmtT n)) [] 0 := by
  refine fnOk tab mix G.ref6_Format rfl rfl (by kernel_rfl) rfl rfl ?_
  (conv => whnf)
  have hX : max (-2147483648 : Int) (min n 2147483648) = clampI n := rfl
  rw [hX]
  have hb : -2147483648 ≤ clampI n ∧ clampI n ≤ 2147483648 := by unfold clampI; omega
  have hF : fmtT n = fmtS (if clampI n < 0 then minusT else ByteArray.empty) (clampI n).natAbs := rfl
  rw [hF]
  clear hX hF
  generalize clampI n = x at *
  refine ask_m (fun h => ?_) (fun h => ?_)
  case' refine_1 =>
    have h : x < 0 := by simpa using h
    rw [if_pos h]
    obtain ⟨a, ha⟩ : ∃ a : Nat, x = - (a : Int) := ⟨x.natAbs, by omega⟩
    have hna : x.natAbs = a := by omega
    have hw : IntKind.i64.wrap (0 - x) = (a : Int) := by rw [w64] <;> omega
    rw [hna]
    have hsg : minusT.size ≤ 1 := by decide
    obtain ⟨sgn, hsgn⟩ : ∃ sgn : ByteArray, sgn = minusT := ⟨_, rfl⟩
    rw [← hsgn]
    have hab : a ≤ 2147483648 := by omega
    (conv => whnf)
    rw [hw]
  case' refine_2 =>
    have h : ¬ x < 0 := by simpa using h
    rw [if_neg h]
    obtain ⟨a, ha⟩ : ∃ a : Nat, x = (a : Int) := ⟨x.natAbs, by omega⟩
    have hna : x.natAbs = a := by omega
    rw [hna]
    have hsg : ByteArray.empty.size ≤ 1 := by decide
    obtain ⟨sgn, hsgn⟩ : ∃ sgn : ByteArray, sgn = ByteArray.empty := ⟨_, rfl⟩
    rw [← hsgn]
    have hab : a ≤ 2147483648 := by omega
    subst ha
    (conv => whnf)
  all_goals
    have q1 : IntKind.i64.wrap ((a : Int).tdiv 65536) = ((a / 65536 : Nat) : Int) := by rw [Int.tdiv_eq_ediv_of_nonneg (by omega), w64 (by omega) (by omega)]; omega
    have q2 : (a : Int).tmod 65536 = ((a % 65536 : Nat) : Int) := by rw [Int.tmod_eq_emod_of_nonneg (by omega)]; omega
    have z1 := decT_size (n := a / 65536) (k := 1) (by omega) (by omega)
    refine ⟨(by decide : (65536 : Int) ≠ 0), ?_⟩
    (conv => whnf)
    rw [q1]
    refine call_i (ref_DecimalT (a / 65536) 1 (by omega) (by omega)) ?_
    (conv => whnf)
    refine ⟨(Nat.le_trans (Nat.add_le_add hsg z1.1) (by decide)), ?_⟩
    (conv => whnf)
    refine ⟨(by decide : (65536 : Int) ≠ 0), ?_⟩
    (conv => whnf)
    rw [q2]
    refine ask_m (fun h0 => ?_) (fun h0 => ?_)
    · have h0 : a % 65536 = 0 := by simp at h0; omega
      (conv => whnf)
      refine ret0 ?_
      exact ret_dv (by rw [fmtS, if_pos h0, hsgn]; rfl) rfl
    have h0 : ¬ a % 65536 = 0 := by simp at h0; omega
    rw [fmtS, if_neg h0]
    have hf1 : 1 ≤ a % 65536 ∧ a % 65536 ≤ 65535 := by omega
    generalize a % 65536 = f at *
    have q3 : IntKind.i64.wrap ((IntKind.i64.wrap (IntKind.i64.wrap (IntKind.i64.wrap (2 * (f : Int)) * 100000) + 65536)).tdiv 131072) = (((2 * f * 100000 + 65536) / 131072 : Nat) : Int) := by
      rw [w64 (x := 2 * (f : Int)) (by omega) (by omega), w64 (x := 2 * (f : Int) * 100000) (by omega) (by omega), w64 (x := 2 * (f : Int) * 100000 + 65536) (by omega) (by omega), Int.tdiv_eq_ediv_of_nonneg (by omega), w64 (by omega) (by omega)]; omega
    have hv : 1 ≤ (2 * f * 100000 + 65536) / 131072 ∧ (2 * f * 100000 + 65536) / 131072 ≤ 99999 := by omega
    (conv => whnf)
    refine ⟨(by decide : (131072 : Int) ≠ 0), ?_⟩
    (conv => whnf)
    rw [q3]
    refine call_i (ref_DecimalT ((2 * f * 100000 + 65536) / 131072) 5 (by omega) (by omega)) ?_
    (conv => whnf)
    have hs := decT_some hv.1 hv.2
    have z2 := decT_size (n := (2 * f * 100000 + 65536) / 131072) (k := 5) (by omega) (by omega)
    rw [fracT]
    generalize decT ((2 * f * 100000 + 65536) / 131072) 5 = t at *
    rw [← hsgn] at hsg
    generalize decT (a / 65536) 1 = d at *
    refine loop_intro (fun k : Nat => ⟨[(4, Tx (sgn ++ d)), (6, Tx (t.extract 0 k))], [], 0⟩) (fun k => k ≤ t.size ∧ trimN t k = trimN t t.size ∧ ∃ i, i < k ∧ byteAt t i ≠ 48) (fun k => k) [] t.size [] ⟨Nat.le_refl _, rfl, hs⟩ ⟨⟨congrArg Tx (by rw [hsgn]; rfl), congrArg Tx (by simp), trivial⟩, trivial⟩ ?_
    rintro k ⟨hk, htr, i, hi, hne⟩
    have hsz : (t.extract 0 k).size = k := by simp; omega
    have hk1 : IntKind.i64.wrap (((t.extract 0 k).size : Int) - 1) = ((k - 1 : Nat) : Int) := by rw [hsz, w64] <;> omega
    (conv => whnf)
    rw [hk1]
    refine ⟨⟨by omega, by rw [hsz]; omega⟩, ?_⟩
    (conv => whnf)
    rw [Int.toNat_natCast, ext_byte hk (by omega)]
    rw [show k = k - 1 + 1 by omega, trimN] at htr
    refine ask_m (fun h8 => ?_) (fun h8 => ?_)
    · have h8 : byteAt t (k - 1) = 48 := by simpa using h8
      rw [if_pos h8] at htr
      (conv => whnf)
      rw [hk1]
      refine ⟨⟨by omega, by rw [hsz]; omega⟩, ?_⟩
      (conv => whnf)
      rw [Int.toNat_natCast]
      refine ⟨k - 1, [], ⟨by omega, htr, i, ?_, hne⟩, by omega, ⟨⟨rfl, congrArg Tx (ext_ext (by omega) hk), trivial⟩, trivial⟩⟩
      rcases Nat.lt_or_ge i (k - 1) with h | h
      · exact h
      · rw [show i = k - 1 by omega] at hne; exact absurd h8 hne
    · have h8 : ¬ byteAt t (k - 1) = 48 := by simpa using h8
      rw [if_neg h8, show k - 1 + 1 = k by omega] at htr
      rw [← htr]
      (conv => whnf)
      refine ⟨(by rw [ByteArray.size_append]; show _ + 1 ≤ _; omega), ?_⟩
      (conv => whnf)
      refine ⟨(by rw [ByteArray.size_append, ByteArray.size_append, hsz]; show _ + 1 + _ ≤ _; omega), ?_⟩
      (conv => whnf)
      (conv => whnf)
      refine ret0 ?_
      exact ret_dv rfl rfl
end Go.Proofs.YtoabhjflfbblfaaDoor

/- Numerals. No program in sight. -/
namespace Go.Proofs.YtoabhjflfbblfaaDoor
open Eng
set_option maxRecDepth 100000

/- numerals -/
theorem nd_dl : ∀ f u, u < 10 ^ (f + 1) → dl (f + 1) u 1 = Lib.nDigits u
  | 0, u, h => by
    have : u < 10 := by simpa using h
    rw [Lib.nDigits, dif_pos this, dl, if_neg (by omega)]; rfl
  | f + 1, u, h => by
    rw [Lib.nDigits, dl, if_neg (by omega)]
    split
    · rename_i h10
      rw [Nat.div_eq_of_lt h10, dl, if_pos (by omega)]
    · rename_i h10
      have ih := nd_dl f (u / 10) (by rw [Nat.pow_succ] at h; omega)
      rw [← ih, dl, dl, if_neg (by omega), if_neg (by omega)]
theorem nd_dl20 {u : Nat} (h : u ≤ 9223372036854775807) : dl 20 u 1 = Lib.nDigits u := nd_dl 19 u (Nat.lt_of_le_of_lt h (by decide))
theorem txt_eq' {s t : ByteArray} (hs : s.size = t.size) (h : ∀ i, i < s.size → byteAt s i = byteAt t i) : s = t := by
  refine ByteArray.ext_getElem hs fun i hi hi' => ?_
  have := h i hi
  rw [byteAt_get hi, byteAt_get hi'] at this
  exact UInt8.toNat_inj.1 (Int.ofNat.inj this)
def itT (n : Int) : ByteArray := ⟨(Lib.itoa n).toArray⟩
theorem itT_dec {u : Nat} (h : u ≤ 9223372036854775807) : itT (u : Int) = decT u 1 := by
  have hd : (decT u 1).size = Lib.nDigits u := by rw [decT, decB_size, nd_dl20 h]
  have hs : (itT (u : Int)).size = Lib.nDigits u := by
    rw [itT, Lib.itoa_nonneg]
    show (Lib.decDigits u).toArray.size = _
    rw [List.size_toArray, Lib.decDigits_length]
  refine txt_eq' (hs.trans hd.symm) fun i hi => ?_
  rw [hs] at hi
  have e1 : byteAt (decT u 1) i = 48 + ((u / 10 ^ (Lib.nDigits u - 1 - i) % 10 : Nat) : Int) := by rw [decT, nd_dl20 h, decB_byte _ _ _ hi]
  rw [e1, byteAt_get (by omega)]
  have e2 : (itT (u : Int))[i]'(by omega) = Lib.dg u (Lib.nDigits u - 1 - i) := by
    have : (Lib.decDigits u)[i]'(by rw [Lib.decDigits_length]; exact hi) = Lib.dg u (Lib.nDigits u - 1 - i) := by
      simp [Lib.decDigits_eq]
    rw [← this]
    simp only [itT, Lib.itoa_nonneg]
    rfl
  rw [e2, Lib.dg]
  have : u / 10 ^ (Lib.nDigits u - 1 - i) % 10 < 10 := Nat.mod_lt _ (by decide)
  simp only [UInt8.toNat_ofNat']
  omega
theorem dl_at {n k j : Nat} (hn : n ≤ 9223372036854775807) (hk : k ≤ 20) (h0 : n / 10 ^ j = 0) (h1 : k ≤ j) (h2 : ∀ i, i < j → ¬ (n / 10 ^ i = 0 ∧ k ≤ i)) : dl 20 n k = j := by
  obtain ⟨a, b, c, d⟩ := dl20 hn hk
  rcases Nat.lt_trichotomy (dl 20 n k) j with h | h | h
  · exact absurd ⟨a, b⟩ (h2 _ h)
  · exact h
  · exact absurd ⟨h0, h1⟩ (d j h)
theorem dec5 {v : Nat} (h : v ≤ 99999) : decT v 5 = decB 5 v := by
  rw [decT, dl_at (j := 5) (by omega) (by decide) (Nat.div_eq_of_lt (by show v < 100000; omega)) (by decide) (fun i hi h => by omega)]
theorem dec6 {v : Nat} (h : v ≤ 99999) : decT (100000 + v) 1 = dig 1 ++ decB 5 v := by
  have e : dl 20 (100000 + v) 1 = 6 := dl_at (by omega) (by decide) (Nat.div_eq_of_lt (by show _ < 1000000; omega)) (by decide) fun i hi hh => by
    have : i = 1 ∨ i = 2 ∨ i = 3 ∨ i = 4 ∨ i = 5 := by omega
    obtain ⟨h1, _⟩ := hh
    rcases this with rfl | rfl | rfl | rfl | rfl
    · have : (100000 + v) / 10 = 0 := h1
      omega
    · have : (100000 + v) / 100 = 0 := h1
      omega
    · have : (100000 + v) / 1000 = 0 := h1
      omega
    · have : (100000 + v) / 10000 = 0 := h1
      omega
    · have : (100000 + v) / 100000 = 0 := h1
      omega
  have d5 : (100000 + v) / 10 ^ 5 % 10 = 1 := by show (100000 + v) / 100000 % 10 = 1; omega
  have d4 : (100000 + v) / 10 ^ 4 % 10 = v / 10 ^ 4 % 10 := by show (100000 + v) / 10000 % 10 = v / 10000 % 10; omega
  have d3 : (100000 + v) / 10 ^ 3 % 10 = v / 10 ^ 3 % 10 := by show (100000 + v) / 1000 % 10 = v / 1000 % 10; omega
  have d2 : (100000 + v) / 10 ^ 2 % 10 = v / 10 ^ 2 % 10 := by show (100000 + v) / 100 % 10 = v / 100 % 10; omega
  have d1 : (100000 + v) / 10 ^ 1 % 10 = v / 10 ^ 1 % 10 := by show (100000 + v) / 10 % 10 = v / 10 % 10; omega
  have d0 : (100000 + v) / 10 ^ 0 % 10 = v / 10 ^ 0 % 10 := by show (100000 + v) / 1 % 10 = v / 1 % 10; omega
  rw [decT, e]
  simp only [decB, d5, d4, d3, d2, d1, d0]
theorem tail6 {v : Nat} (h : v ≤ 99999) : (decT (100000 + v) 1).extract 1 (decT (100000 + v) 1).size = decT v 5 := by
  rw [dec5 h, dec6 h]
  have s1 : (dig 1).size = 1 := by decide
  have s2 : (decB 5 v).size = 5 := decB_size 5 v
  refine ByteArray.ext_getElem (by rw [ByteArray.size_extract, ByteArray.size_append]; omega) fun i hi hi' => ?_
  rw [ByteArray.getElem_extract, ByteArray.getElem_append_right (by omega)]
  congr 1; omega

end Go.Proofs.YtoabhjflfbblfaaDoor

/-
  DERIVED: THE SHELF's CONTRACTS AT THIS DUMP, IN PLAIN WORDS (tools/lay-plain.mjs out of 'YtoabhjflfbblfaaDoorShS.lean', which tools/lay-shelf.mjs wrote): THE SAME DECLARATIONS UNDER THE SAME NAMES: 'import', 'namespace', 'open', 'def', 'theorem' AND NOTHING ELSE: no command of the shelf's: FOR A HAND-IN. Each laying: the table of numbers ('.._ren') and one theorem, a field a fact of the dump's own or the kernel's comparison; each contract: ONE APPLICATION.
-/
namespace Go.Proofs
open Go.Shelf
def Tryd.lays246_ren : Go.Shelf.Ren := ⟨fun | 246 => 17 | 283 => 27 | 284 => 28 | 285 => 29 | 286 => 30 | 129 => 37 | 317 => 36 | 318 => 38 | 319 => 39 | 320 => 40 | 337 => 48 | 338 => 49 | n => n, fun | 2 => 2 | 3 => 3 | 9 => 9 | 4 => 4 | 171 => 54 | 0 => 0 | 53 => 55 | 37 => 58 | 5 => 5 | 173 => 59 | 212 => 69 | 51 => 70 | 20 => 20 | 213 => 71 | 46 => 73 | 232 => 80 | 233 => 81 | n => n, fun | 17 => 0 | 18 => 2 | 19 => 3 | n => n⟩
theorem Tryd.lays246 : Go.Proofs.LaysM.n246 Tryd.prog Tryd.lays246_ren := {
  mixed := by kernel_rfl
  f129 := Tryd.func37.trans (congrArg some (by kernel_rfl))
  f246 := Tryd.func17.trans (congrArg some (by kernel_rfl))
  f283 := Tryd.func27.trans (congrArg some (by kernel_rfl))
  f284 := Tryd.func28.trans (congrArg some (by kernel_rfl))
  f285 := Tryd.func29.trans (congrArg some (by kernel_rfl))
  f286 := Tryd.func30.trans (congrArg some (by kernel_rfl))
  f317 := Tryd.func36.trans (congrArg some (by kernel_rfl))
  f318 := Tryd.func38.trans (congrArg some (by kernel_rfl))
  f319 := Tryd.func39.trans (congrArg some (by kernel_rfl))
  f320 := Tryd.func40.trans (congrArg some (by kernel_rfl))
  f337 := Tryd.func48.trans (congrArg some (by kernel_rfl))
  f338 := Tryd.func49.trans (congrArg some (by kernel_rfl))
  t0 := Tryd.underlying0
  a0 := Tryd.isAgg0
  z0 := Tryd.sizeOf0
  v0 := Tryd.zeroValue0
  t2 := Tryd.underlying2
  a2 := Tryd.isAgg2
  z2 := Tryd.sizeOf2
  v2 := Tryd.zeroValue2
  t3 := Tryd.underlying3
  a3 := Tryd.isAgg3
  z3 := Tryd.sizeOf3
  v3 := Tryd.zeroValue3
  t4 := Tryd.underlying4
  a4 := Tryd.isAgg4
  z4 := Tryd.sizeOf4
  v4 := Tryd.zeroValue4
  t5 := Tryd.underlying5
  a5 := Tryd.isAgg5
  z5 := Tryd.sizeOf5
  v5 := Tryd.zeroValue5
  t9 := Tryd.underlying9
  a9 := Tryd.isAgg9
  z9 := Tryd.sizeOf9
  v9 := Tryd.zeroValue9
  t20 := Tryd.underlying20
  a20 := Tryd.isAgg20
  z20 := Tryd.sizeOf20
  v20 := Tryd.zeroValue20
  t37 := Tryd.underlying58
  a37 := Tryd.isAgg58
  z37 := Tryd.sizeOf58
  v37 := Tryd.zeroValue58
  t46 := Tryd.underlying73
  a46 := Tryd.isAgg73
  z46 := Tryd.sizeOf73
  v46 := Tryd.zeroValue73
  t51 := Tryd.underlying70
  a51 := Tryd.isAgg70
  z51 := Tryd.sizeOf70
  v51 := Tryd.zeroValue70
  t53 := Tryd.underlying55
  a53 := Tryd.isAgg55
  z53 := Tryd.sizeOf55
  v53 := Tryd.zeroValue55
  t171 := Tryd.underlying54
  a171 := Tryd.isAgg54
  z171 := Tryd.sizeOf54
  v171 := Tryd.zeroValue54
  t173 := Tryd.underlying59
  a173 := Tryd.isAgg59
  z173 := Tryd.sizeOf59
  v173 := Tryd.zeroValue59
  t212 := Tryd.underlying69
  a212 := Tryd.isAgg69
  z212 := Tryd.sizeOf69
  v212 := Tryd.zeroValue69
  t213 := Tryd.underlying71
  a213 := Tryd.isAgg71
  z213 := Tryd.sizeOf71
  t232 := Tryd.underlying80
  a232 := Tryd.isAgg80
  z232 := Tryd.sizeOf80
  v232 := Tryd.zeroValue80
  t233 := Tryd.underlying81
  a233 := Tryd.isAgg81
  z233 := Tryd.sizeOf81
  v233 := Tryd.zeroValue81
  g17 := by kernel_rfl
  g18 := by kernel_rfl
  g19 := by kernel_rfl
  i0 := by kernel_rfl
  i2 := by kernel_rfl
  i3 := by kernel_rfl
  i4 := by kernel_rfl
  i5 := by kernel_rfl
  i9 := by kernel_rfl
  i20 := by kernel_rfl
  i37 := by kernel_rfl
  i46 := by kernel_rfl
  i51 := by kernel_rfl
  i53 := by kernel_rfl
  i171 := by kernel_rfl
  i173 := by kernel_rfl
  i212 := by kernel_rfl
  i232 := by kernel_rfl
  i233 := by kernel_rfl
  m17 := by kernel_rfl
  m18 := by kernel_rfl
  m19 := by kernel_rfl }
end Go.Proofs

/- strconv.FormatInt, strings.TrimRight, token.Format. -/
namespace Go.Proofs.YtoabhjflfbblfaaDoor
open Eng Go.RowKit
set_option maxRecDepth 100000

/- the bridge -/
theorem gPow : Tryd.prog.globalNamed "internal/strconv.uint64pow10" = some 0 := by kernel_rfl
theorem vPow : lkv GLV 0 = some (Lib.pow10Tab.map fun z => Value.int .u64 z) := by kernel_rfl
theorem mem00 {w0 w w' : World} {X Z A : Nat → Prop} {β : Nat → Value} {m : List (Nat × Box)} (h : MemRel w0 X Z A m β w) (hos : w'.os = w.os) (htp : w'.tape = w.tape) (hout : w'.output = w.output) (hsz : w.heap.size ≤ w'.heap.size) (hh : ∀ k, k < w0.heap.size → ¬ X k → w'.heap[k]? = w.heap[k]?) :
    MemRel w0 X Z A [] β w' :=
  ⟨fun b => ⟨trivial, fun hd => absurd rfl hd⟩, fun b => trivial, fun b b' k hb => absurd rfl hb, fun b k hb => absurd rfl hb, ⟨hos.trans h.ext.os, htp.trans h.ext.tape, hout.trans h.ext.output, Nat.le_trans h.ext.size hsz, fun k hk hX => by rw [hh k hk hX]; exact h.ext.block k hk hX⟩, h.new, fun b sz k hb => by cases hb⟩
theorem intl_FormatInt (n : Int) (h0 : -9223372036854775808 ≤ n) (h1 : n ≤ 9223372036854775807) : FnOk Tryd.prog F.internal_strconv_FormatInt [I n, I 10] [] 0 (Tx (itT n)) [] 0 := by
  refine ⟨by kernel_rfl, fun w Z vs β hargs hmem => ?_⟩
  obtain ⟨v, r, rfl, hv, hr⟩ := all2_cons hargs
  obtain ⟨v2, r, rfl, hv2, hr⟩ := all2_cons hr
  obtain rfl := all2_nil hr
  cases hv
  cases hv2
  obtain ⟨hg, _, _, t, fr, hb⟩ := hmem.new.glob _ _ vPow
  have htab : Lib.TabIs Tryd.prog w "internal/strconv.uint64pow10" .u64 Lib.pow10Tab := by
    unfold Lib.TabIs World.var?
    rw [gPow, Option.bind_some, hb]
  refine (Any.internal_strconv_FormatInt_10 Tryd.lays246 n h0 h1 w htab).mono ?_
  rintro e w' ⟨rfl, k, os, rfl⟩
  refine ⟨_, β, rfl, .str _, trivial, mem00 hmem rfl rfl rfl ?_ ?_, fun b _ hd => absurd rfl hd⟩
  · show w.heap.size ≤ (w.heap ++ os).size
    rw [Array.size_append]; omega
  · intro j hj _
    show (w.heap ++ os)[j]? = w.heap[j]?
    rw [Array.getElem?_append_left hj]
attribute [local irreducible] FnOk loopW idxF retX arrF
theorem strconv_FormatInt (n : Int) (h0 : -9223372036854775808 ≤ n) (h1 : n ≤ 9223372036854775807) : FnOk Tryd.prog F.strconv_FormatInt [I n, I 10] [] 0 (Tx (itT n)) [] 0 := by
  refine fnOk tab mix G.strconv_FormatInt rfl rfl (by kernel_rfl) rfl rfl ?_
  (conv => whnf)
  refine call_i (intl_FormatInt n h0 h1) ?_
  (conv => whnf)
  (conv => whnf)
  refine ret0 ?_
  exact ret_dv rfl rfl
def zeroT : ByteArray := ⟨#[48]⟩
theorem st_trimRightByte (t : ByteArray) (ht : t.size ≤ 4611686018427387904) : FnOk Tryd.prog F.strings_trimRightByte [Tx t, .one (.dv (.int .u8 48))] [] 0 (Tx (t.extract 0 (trimN t t.size))) [] 0 := by
  refine fnOk tab mix G.strings_trimRightByte rfl rfl (by kernel_rfl) rfl rfl ?_
  (conv => whnf)
  refine loop_intro (fun k : Nat => ⟨[(0, Tx (t.extract 0 k)), (1, .one (.dv (.int .u8 48)))], [], 0⟩) (fun k => k ≤ t.size ∧ trimN t k = trimN t t.size) (fun k => k) [] t.size [] ⟨Nat.le_refl _, rfl⟩ ⟨⟨congrArg Tx (by simp), rfl, trivial⟩, trivial⟩ ?_
  rintro k ⟨hk, htr⟩
  have hsz : (t.extract 0 k).size = k := by simp; omega
  have hk1 : IntKind.i64.wrap (((t.extract 0 k).size : Int) - 1) = ((k - 1 : Nat) : Int) → True := fun _ => trivial
  cases k with
  | zero =>
    have g : decide ((0 : Int) < (((t.extract 0 0).size : Nat) : Int)) = false := decide_eq_false (by rw [hsz]; decide)
    have htr : 0 = trimN t t.size := htr
    rw [← htr]
    (conv => whnf)
    rw [g]
    (conv => whnf)
    refine ret0 ?_
    exact ret_dv rfl rfl
  | succ k =>
    have g : decide ((0 : Int) < (((t.extract 0 (k + 1)).size : Nat) : Int)) = true := decide_eq_true (by rw [hsz]; omega)
    have hk1 : IntKind.i64.wrap (((t.extract 0 (k + 1)).size : Int) - 1) = (k : Int) := by rw [hsz, w64] <;> omega
    (conv => whnf)
    rw [g]
    (conv => whnf)
    rw [hk1]
    refine ⟨⟨by omega, by rw [hsz]; omega⟩, ?_⟩
    (conv => whnf)
    rw [Int.toNat_natCast, ext_byte hk (by omega)]
    rw [trimN] at htr
    refine ask_m (fun h8 => ?_) (fun h8 => ?_)
    · have h8 : byteAt t k = 48 := by simpa using h8
      rw [if_pos h8] at htr
      (conv => whnf)
      rw [hk1]
      refine ⟨⟨by omega, by rw [hsz]; omega⟩, ?_⟩
      (conv => whnf)
      rw [Int.toNat_natCast]
      exact ⟨k, [], ⟨by omega, htr⟩, by omega, ⟨⟨congrArg Tx (ext_ext (by omega) hk), rfl, trivial⟩, trivial⟩⟩
    · have h8 : ¬ byteAt t k = 48 := by simpa using h8
      rw [if_neg h8] at htr
      rw [← htr]
      (conv => whnf)
      refine ret0 ?_
      exact ret_dv rfl rfl
theorem st_TrimRight (t : ByteArray) (h0 : 0 < t.size) (ht : t.size ≤ 4611686018427387904) : FnOk Tryd.prog F.strings_TrimRight [Tx t, Tx zeroT] [] 0 (Tx (t.extract 0 (trimN t t.size))) [] 0 := by
  have g : decide (t = (⟨#[]⟩ : ByteArray)) = false := decide_eq_false (by rintro rfl; exact absurd h0 (by decide))
  refine fnOk tab mix G.strings_TrimRight rfl rfl (by kernel_rfl) rfl rfl ?_
  (conv => whnf)
  rw [g]
  (conv => whnf)
  refine ⟨⟨by decide, by decide⟩, ?_⟩
  (conv => whnf)
  refine ⟨⟨by decide, by decide⟩, ?_⟩
  (conv => whnf)
  refine call_i (st_trimRightByte t ht) ?_
  (conv => whnf)
  (conv => whnf)
  refine ret0 ?_
  exact ret_dv rfl rfl
theorem token_Format (n : Int) : FnOk Tryd.prog F.token_Format [I n] [] 0 (Tx (fmtT n)) [] 0 := by
  refine fnOk tab mix G.token_Format rfl rfl (by kernel_rfl) rfl rfl ?_
  (conv => whnf)
  have hX : min (max n (-2147483648 : Int)) 2147483648 = clampI n := by unfold clampI; omega
  rw [hX]
  have hb : -2147483648 ≤ clampI n ∧ clampI n ≤ 2147483648 := by unfold clampI; omega
  have hF : fmtT n = fmtS (if clampI n < 0 then minusT else ByteArray.empty) (clampI n).natAbs := rfl
  rw [hF]
  clear hX hF
  generalize clampI n = x at *
  refine ask_m (fun h => ?_) (fun h => ?_)
  case' refine_1 =>
    have h : x < 0 := by simpa using h
    rw [if_pos h]
    obtain ⟨a, ha⟩ : ∃ a : Nat, x = - (a : Int) := ⟨x.natAbs, by omega⟩
    have hna : x.natAbs = a := by omega
    have hw : IntKind.i64.wrap (0 - x) = (a : Int) := by rw [w64] <;> omega
    rw [hna]
    have hsg : minusT.size ≤ 1 := by decide
    obtain ⟨sgn, hsgn⟩ : ∃ sgn : ByteArray, sgn = minusT := ⟨_, rfl⟩
    rw [← hsgn]
    have hab : a ≤ 2147483648 := by omega
    (conv => whnf)
    rw [hw]
  case' refine_2 =>
    have h : ¬ x < 0 := by simpa using h
    rw [if_neg h]
    obtain ⟨a, ha⟩ : ∃ a : Nat, x = (a : Int) := ⟨x.natAbs, by omega⟩
    have hna : x.natAbs = a := by omega
    rw [hna]
    have hsg : ByteArray.empty.size ≤ 1 := by decide
    obtain ⟨sgn, hsgn⟩ : ∃ sgn : ByteArray, sgn = ByteArray.empty := ⟨_, rfl⟩
    rw [← hsgn]
    have hab : a ≤ 2147483648 := by omega
    subst ha
    (conv => whnf)
  all_goals
    have q1 : IntKind.i64.wrap ((a : Int).tdiv 65536) = ((a / 65536 : Nat) : Int) := by rw [Int.tdiv_eq_ediv_of_nonneg (by omega), w64 (by omega) (by omega)]; omega
    have q2 : (a : Int).tmod 65536 = ((a % 65536 : Nat) : Int) := by rw [Int.tmod_eq_emod_of_nonneg (by omega)]; omega
    have z1 := decT_size (n := a / 65536) (k := 1) (by omega) (by omega)
    have i1 := itT_dec (u := a / 65536) (by omega)
    refine ⟨(by decide : (65536 : Int) ≠ 0), ?_⟩
    (conv => whnf)
    rw [q1]
    refine call_i (strconv_FormatInt ((a / 65536 : Nat) : Int) (by omega) (by omega)) ?_
    (conv => whnf)
    rw [i1]
    refine ⟨(Nat.le_trans (Nat.add_le_add hsg z1.1) (by decide)), ?_⟩
    (conv => whnf)
    refine ⟨(by decide : (65536 : Int) ≠ 0), ?_⟩
    (conv => whnf)
    rw [q2]
    refine ask_m (fun h0 => ?_) (fun h0 => ?_)
    · have h0 : a % 65536 = 0 := by simp at h0; omega
      (conv => whnf)
      refine ret0 ?_
      exact ret_dv (by rw [fmtS, if_pos h0, hsgn]; rfl) rfl
    have h0 : ¬ a % 65536 = 0 := by simp at h0; omega
    rw [fmtS, if_neg h0]
    have hf1 : 1 ≤ a % 65536 ∧ a % 65536 ≤ 65535 := by omega
    generalize a % 65536 = f at *
    have q3 : IntKind.i64.wrap ((IntKind.i64.wrap (IntKind.i64.wrap ((f : Int) * 100000) + 32768)).tdiv 65536) = (((2 * f * 100000 + 65536) / 131072 : Nat) : Int) := by
      rw [w64 (x := (f : Int) * 100000) (by omega) (by omega), w64 (x := (f : Int) * 100000 + 32768) (by omega) (by omega), Int.tdiv_eq_ediv_of_nonneg (by omega), w64 (by omega) (by omega)]; omega
    have hv : 1 ≤ (2 * f * 100000 + 65536) / 131072 ∧ (2 * f * 100000 + 65536) / 131072 ≤ 99999 := by omega
    rw [fracT]
    obtain ⟨v, hv0⟩ : ∃ v, v = (2 * f * 100000 + 65536) / 131072 := ⟨_, rfl⟩
    rw [← hv0] at hv q3 ⊢
    clear hv0
    have q4 : IntKind.i64.wrap (100000 + (v : Int)) = ((100000 + v : Nat) : Int) := by rw [w64] <;> omega
    have i2 := itT_dec (u := 100000 + v) (by omega)
    have z2 := decT_size (n := v) (k := 5) (by omega) (by omega)
    have z3 := decT_size (n := 100000 + v) (k := 1) (by omega) (by omega)
    have z4 := tail6 hv.2
    rw [← hsgn] at hsg
    generalize decT (a / 65536) 1 = d at *
    (conv => whnf)
    refine ⟨(by decide : (65536 : Int) ≠ 0), ?_⟩
    (conv => whnf)
    rw [q3]
    have s0 : (⟨#[]⟩ : ByteArray).size = 0 := rfl
    have s1 : (⟨#[45]⟩ : ByteArray).size = 1 := rfl
    have s2 : (⟨#[46]⟩ : ByteArray).size = 1 := rfl
    refine ⟨(by rw [ByteArray.size_append]; omega), ?_⟩
    (conv => whnf)
    rw [q4]
    refine call_i (strconv_FormatInt ((100000 + v : Nat) : Int) (by omega) (by omega)) ?_
    (conv => whnf)
    rw [i2]
    refine ⟨⟨by decide, by omega⟩, ?_⟩
    (conv => whnf)
    rw [show (decT (100000 + v) 1).extract (1 : Int).toNat (decT (100000 + v) 1).size = decT v 5 from z4]
    refine call_i (st_TrimRight (decT v 5) (by omega) (by omega)) ?_
    (conv => whnf)
    have z5 := trimN_le (decT v 5) (decT v 5).size
    refine ⟨(by rw [ByteArray.size_append, ByteArray.size_append, ByteArray.size_extract]; omega), ?_⟩
    (conv => whnf)
    (conv => whnf)
    refine ret0 ?_
    exact ret_dv (by rw [hsgn]; rfl) rfl
end Go.Proofs.YtoabhjflfbblfaaDoor

/- Names. No program in sight. -/
namespace Go.Proofs.YtoabhjflfbblfaaDoor
open Eng
set_option maxRecDepth 10000

theorem nameB_low {i : Nat} {c : Int} (h : nameB i c = true) : c < 128 := by
  simp only [nameB, letterB, digitB, Bool.or_eq_true, Bool.and_eq_true, decide_eq_true_eq] at h
  omega
theorem dec_name {s : ByteArray} {i : Nat} (h : i < s.size) : nameB i (Utf8.decode s i).1 = nameB i (byteAt s i) ∧ (nameB i (byteAt s i) = true → (Utf8.decode s i).2 = 1) := by
  have hb := byteAt_get h
  by_cases ha : (s[i]'h).toNat < 128
  · rw [decode_ascii s i h ha, hb]; exact ⟨rfl, fun _ => rfl⟩
  · have := (decode_high s i h (by omega)).1
    have h1 : nameB i (byteAt s i) = false := by
      rcases hn : nameB i (byteAt s i) with _ | _
      · rfl
      · have := nameB_low hn; omega
    have h2 : nameB i ((Utf8.decode s i).1 : Int) = false := by
      rcases hn : nameB i ((Utf8.decode s i).1 : Int) with _ | _
      · rfl
      · have := nameB_low hn; omega
    rw [h1, h2]; exact ⟨rfl, fun h => by cases h⟩
theorem names_take {s : ByteArray} {k : Nat} (h : ((List.range k).all fun i => nameB i (byteAt s i)) = true) (hk : nameB k (byteAt s k) = true) : ((List.range (k + 1)).all fun i => nameB i (byteAt s i)) = true := by
  rw [List.range_succ, List.all_append, h]; simp [hk]
theorem name_not {s : ByteArray} {k : Nat} (hk : k < s.size) (h : nameB k (byteAt s k) = false) : nameOk s = false := by
  have : ((List.range s.size).all fun i => nameB i (byteAt s i)) = false := by
    rw [List.all_eq_false]; exact ⟨k, by simpa using hk, by simp [h]⟩
  simp [nameOk, this]
end Go.Proofs.YtoabhjflfbblfaaDoor

/- Names and small numbers: what the code of the chapters 6, 8 and 9 asks of them. -/
namespace Go.Proofs.YtoabhjflfbblfaaDoor
open Eng
set_option maxRecDepth 10000
attribute [local irreducible] FnOk loopW idxF retX arrF

theorem token_isDigit (c : Int) : FnOk Tryd.prog F.token_isDigit [Ru c] [] 0 (Bo (digitB c)) [] 0 := by
  refine fnOk tab mix G.token_isDigit rfl rfl (by kernel_rfl) rfl rfl ?_
  repeat' ((conv => whnf); first | refine ask_m (fun h => ?_) (fun h => ?_) | refine ret0 ?_)
  all_goals exact ret_b (by first | (simp_all [digitB]; done) | (simp_all [digitB]; omega)) rfl
end Go.Proofs.YtoabhjflfbblfaaDoor

/- Texts cut: the library's IndexByte, Index, Cut, CutPrefix at one byte. -/
namespace Go.Proofs.YtoabhjflfbblfaaDoor
open Eng
set_option maxRecDepth 100000
attribute [local irreducible] FnOk loopW idxF retX arrF

theorem still_fn {P : Program} {f : Nat} (he : entered P f = true) {args : List SV} {us : List Value} {sv : SV} {v : Value} (hargs : ∀ (w : World) (N : Nat → Prop) (m : List (Nat × Box)) (β : Nat → Value) (vs : List Value), All2 (SRd w N m β) args vs → vs = us)
    (hres : ∀ (w : World) (N : Nat → Prop) (m : List (Nat × Box)) (β : Nat → Value), SRd w N m β sv v) (hrf : ∀ A, RefS A sv) (hc : ∀ w, Calls P f us.toArray w fun e w' => e = .returned v ∧ w' = w) : FnOk P f args [] 0 sv [] 0 := by
  unfold FnOk
  refine ⟨he, fun w Z vs β ha hm => ?_⟩
  rw [hargs w _ _ _ vs ha]
  refine (hc w).mono ?_
  rintro e w' ⟨rfl, rfl⟩
  exact ⟨v, β, rfl, hres _ _ _ _, hrf _, hm, fun b hb => by omega⟩
theorem lib_IndexByte (s : ByteArray) (c : Int) (w : World) :
    Calls Tryd.prog 44 #[.string s, .int .u8 c] w fun e w' => e = .returned (.int .i64 (Lib.indexByte s.data.toList c.toNat.toUInt8)) ∧ w' = w := by
  go_enter Tryd.func44, Tryd.ntmps44
  go_wp2
  rw [run_callFunc_extern Tryd.func53 (by kernel_rfl) (by kernel_rfl) (by kernel_rfl) (e := Extern.BytealgIndexByte.indexByte) (by kernel_rfl), Lib.run_indexByteString]
  simp only [Result.andThen]
  rw [Oper.upon_value]
  go_wp2
  go_ret
  exact ⟨rfl, rfl⟩
theorem sl_IndexByte (s : ByteArray) (c : Int) : FnOk Tryd.prog F.internal_stringslite_IndexByte [Tx s, By c] [] 0 (I (Lib.indexByte s.data.toList c.toNat.toUInt8)) [] 0 :=
  still_fn (us := [.string s, .int .u8 c]) (v := .int .i64 (Lib.indexByte s.data.toList c.toNat.toUInt8)) (by kernel_rfl) (fun w N m β vs h => by
    obtain ⟨a, r, rfl, h1, h⟩ := all2_cons h
    obtain ⟨b, r, rfl, h2, h⟩ := all2_cons h
    obtain rfl := all2_nil h
    rw [DRd.str_inv h1, DRd.int_inv h2]) (fun w N m β => DRd.int _ _) (fun A => trivial) (lib_IndexByte s c)

/- bytes -/
theorem byteAt_ext {s : ByteArray} {a b i : Nat} (hb : b ≤ s.size) (hi : i < b - a) : byteAt (s.extract a b) i = byteAt s (a + i) := by
  have h1 : i < (s.extract a b).size := by rw [ByteArray.size_extract]; omega
  have h2 : a + i < s.size := by omega
  rw [byteAt_get h1, byteAt_get h2, ByteArray.getElem_extract]
theorem byteAt_list {s : ByteArray} {i : Nat} (h : i < s.size) : s.data.toList[i]? = some (byteAt s i).toNat.toUInt8 := by
  rw [byteAt_get h]
  have h' : i < s.data.toList.length := by simpa using h
  rw [List.getElem?_eq_getElem h']
  simp only [Int.toNat_natCast]
  show some _ = some (UInt8.ofNat (s[i]'h).toNat)
  rw [UInt8.ofNat_toNat]; rfl
theorem byte_eq {s : ByteArray} {i : Nat} {c : UInt8} (h : i < s.size) : s.data.toList[i]? = some c ↔ byteAt s i = c.toNat := by
  rw [byteAt_list h, Option.some.injEq]
  have hb := byteAt_bd s i
  constructor
  · rintro rfl
    show _ = ((UInt8.ofNat _).toNat : Int)
    rw [UInt8.toNat_ofNat']; omega
  · intro e
    rw [e]
    show UInt8.ofNat c.toNat = c
    exact UInt8.ofNat_toNat
theorem index_spec (l : List UInt8) (c : UInt8) : (Lib.indexByte l c = -1 ∧ ∀ i : Nat, l[i]? ≠ some c) ∨ ∃ p : Nat, Lib.indexByte l c = p ∧ l[p]? = some c ∧ ∀ i : Nat, i < p → l[i]? ≠ some c := by
  induction l with
  | nil => exact .inl ⟨rfl, by simp⟩
  | cons b l ih =>
    by_cases hb : b = c
    · subst hb
      exact .inr ⟨0, by simp [Lib.indexByte], rfl, fun i h => by omega⟩
    · have hbe : (b == c) = false := by simpa using hb
      rcases ih with ⟨h1, h2⟩ | ⟨p, h1, h2, h3⟩
      · refine .inl ⟨by rw [Lib.indexByte, hbe, h1]; rfl, fun i => ?_⟩
        cases i with
        | zero => simpa using hb
        | succ i => simpa using h2 i
      · refine .inr ⟨p + 1, ?_, by simpa using h2, fun i hi => ?_⟩
        · rw [Lib.indexByte, hbe, h1, if_neg (by simp), if_neg (by simp)]; omega
        · cases i with
          | zero => simpa using hb
          | succ i => simpa using h3 i (by omega)
/-- the place of the first byte c, or -1 -/
def placeOfB (s : ByteArray) (c : UInt8) : Int := Lib.indexByte s.data.toList c
theorem place_spec (s : ByteArray) (c : UInt8) : (placeOfB s c = -1 ∧ ∀ i : Nat, i < s.size → byteAt s i ≠ c.toNat) ∨ ∃ p : Nat, placeOfB s c = p ∧ p < s.size ∧ byteAt s p = c.toNat ∧ ∀ i : Nat, i < p → byteAt s i ≠ c.toNat := by
  rcases index_spec s.data.toList c with ⟨h1, h2⟩ | ⟨p, h1, h2, h3⟩
  · exact .inl ⟨h1, fun i hi e => h2 i ((byte_eq hi).2 e)⟩
  · have hp : p < s.size := by simpa using (List.getElem?_eq_some_iff.1 h2).1
    exact .inr ⟨p, h1, hp, (byte_eq hp).1 h2, fun i hi e => h3 i hi ((byte_eq (by omega)).2 e)⟩
abbrev oneB (c : UInt8) : ByteArray := ⟨#[c]⟩
theorem sl_Index (s : ByteArray) (c : UInt8) : FnOk Tryd.prog F.internal_stringslite_Index [Tx s, Tx (oneB c)] [] 0 (I (placeOfB s c)) [] 0 := by
  refine fnOk tab mix G.internal_stringslite_Index rfl rfl (by kernel_rfl) rfl rfl ?_
  (conv => whnf)
  refine ask_m (fun h => ?_) (fun h => ?_)
  · have h : oneB c = s := of_decide_eq_true h
    subst h
    have e : placeOfB (oneB c) c = 0 := by
      rcases place_spec (oneB c) c with ⟨_, h⟩ | ⟨p, h1, h2, _⟩
      · exact absurd rfl (h 0 Nat.zero_lt_one)
      · have : p < 1 := h2
        rw [h1]; omega
    rw [e]
    (conv => whnf)
    refine ret0 ?_
    exact ret_i rfl rfl
  · (conv => whnf)
    refine ⟨⟨Int.le_refl _, Int.zero_lt_one⟩, ?_⟩
    (conv => whnf)
    refine call_i (sl_IndexByte s c.toNat) ?_
    (conv => whnf)
    (conv => whnf)
    refine ret0 ?_
    refine ret_i ?_ rfl
    rw [Int.toNat_natCast]
    show Lib.indexByte _ (UInt8.ofNat c.toNat) = _
    rw [UInt8.ofNat_toNat]; rfl
abbrev Cut3 (a b : ByteArray) (c : Bool) : SV := .tup [(false, [.dv (.str a)]), (false, [.dv (.str b)]), (false, [.dv (.bool c)])]
def cutL (s : ByteArray) (c : UInt8) : ByteArray := if 0 ≤ placeOfB s c then s.extract 0 (placeOfB s c).toNat else s
def cutR (s : ByteArray) (c : UInt8) : ByteArray := if 0 ≤ placeOfB s c then s.extract ((placeOfB s c).toNat + 1) s.size else ByteArray.empty
def cutB (s : ByteArray) (c : UInt8) : Bool := decide (0 ≤ placeOfB s c)
theorem sl_Cut (s : ByteArray) (c : UInt8) (hs : s.size ≤ 4611686018427387904) : FnOk Tryd.prog F.internal_stringslite_Cut [Tx s, Tx (oneB c)] [] 0 (Cut3 (cutL s c) (cutR s c) (cutB s c)) [] 0 := by
  refine fnOk tab mix G.internal_stringslite_Cut rfl rfl (by kernel_rfl) rfl rfl ?_
  (conv => whnf)
  refine call_i (sl_Index s c) ?_
  (conv => whnf)
  rw [cutL, cutR, cutB]
  refine ask_m (fun h => ?_) (fun h => ?_)
  · have h : 0 ≤ placeOfB s c := by simpa using h
    have hp : placeOfB s c < s.size := by
      rcases place_spec s c with ⟨h1, _⟩ | ⟨p, h1, h2, _⟩
      · omega
      · omega
    rw [if_pos h, if_pos h, decide_eq_true h]
    generalize placeOfB s c = p at *
    obtain ⟨p, rfl⟩ : ∃ k : Nat, p = k := ⟨p.toNat, by omega⟩
    have w1 : IntKind.i64.wrap ((p : Int) + ((oneB c).size : Nat)) = ((p + 1 : Nat) : Int) := by show IntKind.i64.wrap ((p : Int) + 1) = _; rw [w64] <;> omega
    (conv => whnf)
    refine ⟨⟨by omega, by omega⟩, ?_⟩
    (conv => whnf)
    rw [w1, Int.toNat_natCast]
    refine ⟨⟨by omega, by omega⟩, ?_⟩
    (conv => whnf)
    rw [Int.toNat_natCast]
    (conv => whnf)
    refine ret0 ?_
    exact ⟨[], ⟨rfl, trivial⟩, trivial⟩
  · have h : ¬ 0 ≤ placeOfB s c := by simpa using h
    rw [if_neg h, if_neg h, decide_eq_false h]
    (conv => whnf)
    refine ret0 ?_
    exact ⟨[], ⟨rfl, trivial⟩, trivial⟩
theorem st_Cut (s : ByteArray) (c : UInt8) (hs : s.size ≤ 4611686018427387904) : FnOk Tryd.prog F.strings_Cut [Tx s, Tx (oneB c)] [] 0 (Cut3 (cutL s c) (cutR s c) (cutB s c)) [] 0 := by
  refine fnOk tab mix G.strings_Cut rfl rfl (by kernel_rfl) rfl rfl ?_
  (conv => whnf)
  refine call_i (sl_Cut s c hs) ?_
  (conv => whnf)
  (conv => whnf)
  refine ret0 ?_
  exact ⟨[], ⟨rfl, trivial⟩, trivial⟩
def headB (s : ByteArray) (c : UInt8) : Bool := decide (1 ≤ s.size) && decide (byteAt s 0 = c.toNat)
def tailB (s : ByteArray) (c : UInt8) : ByteArray := if headB s c then s.extract 1 s.size else s
theorem head_ext {s : ByteArray} {c : UInt8} (h : 1 ≤ s.size) : decide (s.extract 0 1 = oneB c) = decide (byteAt s 0 = c.toNat) := by
  have h1 : byteAt (s.extract 0 1) 0 = byteAt s 0 := byteAt_ext (a := 0) h (by decide)
  have h2 : (s.extract 0 1).size = 1 := by rw [ByteArray.size_extract]; omega
  refine decide_eq_decide.2 ⟨fun e => ?_, fun e => ?_⟩
  · rw [← h1, e]; rfl
  · refine ByteArray.ext_getElem h2 fun i hi hi' => ?_
    have h0 : i = 0 := by omega
    subst h0
    have h3 := byteAt_get hi
    rw [h1, e] at h3
    have h4 : c.toNat = ((s.extract 0 1)[0]'hi).toNat := Int.ofNat.inj h3
    exact (UInt8.toNat_inj.1 h4).symm
theorem sl_HasPrefix (s : ByteArray) (c : UInt8) : FnOk Tryd.prog F.internal_stringslite_HasPrefix [Tx s, Tx (oneB c)] [] 0 (Bo (headB s c)) [] 0 := by
  refine fnOk tab mix G.internal_stringslite_HasPrefix rfl rfl (by kernel_rfl) rfl rfl ?_
  (conv => whnf)
  refine ask_m (fun h => ?_) (fun h => ?_)
  · have h : 1 ≤ s.size := by have : ((1 : Nat) : Int) ≤ s.size := of_decide_eq_true h
                              omega
    (conv => whnf)
    refine ⟨⟨Int.zero_le_ofNat 1, by show ((1 : Nat) : Int) ≤ _; omega⟩, ?_⟩
    (conv => whnf)
    refine ret0 ?_
    refine ret_b ?_ rfl
    rw [headB, decide_eq_true h, Bool.true_and]
    exact head_ext h
  · have h : ¬ 1 ≤ s.size := by have : ¬ ((1 : Nat) : Int) ≤ s.size := of_decide_eq_false h
                                omega
    (conv => whnf)
    refine ret0 ?_
    refine ret_b ?_ rfl
    rw [headB, decide_eq_false h, Bool.false_and]
abbrev Cut2 (a : ByteArray) (c : Bool) : SV := .tup [(false, [.dv (.str a)]), (false, [.dv (.bool c)])]
theorem sl_CutPrefix (s : ByteArray) (c : UInt8) : FnOk Tryd.prog F.internal_stringslite_CutPrefix [Tx s, Tx (oneB c)] [] 0 (Cut2 (tailB s c) (headB s c)) [] 0 := by
  refine fnOk tab mix G.internal_stringslite_CutPrefix rfl rfl (by kernel_rfl) rfl rfl ?_
  (conv => whnf)
  refine call_i (sl_HasPrefix s c) ?_
  (conv => whnf)
  refine ask_m (fun h => ?_) (fun h => ?_)
  · have h : headB s c = false := by simpa using h
    rw [tailB, h]
    (conv => whnf)
    refine ret0 ?_
    exact ⟨[], ⟨rfl, trivial⟩, trivial⟩
  · have h : headB s c = true := by simpa using h
    have h1 : 1 ≤ s.size := by rw [headB, Bool.and_eq_true] at h; exact of_decide_eq_true h.1
    rw [tailB, h, if_pos rfl]
    (conv => whnf)
    refine ⟨⟨Int.zero_le_ofNat 1, by show ((1 : Nat) : Int) ≤ _; omega⟩, ?_⟩
    (conv => whnf)
    refine ret0 ?_
    exact ⟨[], ⟨rfl, trivial⟩, trivial⟩
theorem st_CutPrefix (s : ByteArray) (c : UInt8) : FnOk Tryd.prog F.strings_CutPrefix [Tx s, Tx (oneB c)] [] 0 (Cut2 (tailB s c) (headB s c)) [] 0 := by
  refine fnOk tab mix G.strings_CutPrefix rfl rfl (by kernel_rfl) rfl rfl ?_
  (conv => whnf)
  refine call_i (sl_CutPrefix s c) ?_
  (conv => whnf)
  (conv => whnf)
  refine ret0 ?_
  exact ⟨[], ⟨rfl, trivial⟩, trivial⟩
end Go.Proofs.YtoabhjflfbblfaaDoor

/- Digits and integers: token and the reference. -/
namespace Go.Proofs.YtoabhjflfbblfaaDoor
open Eng
set_option maxRecDepth 10000
attribute [local irreducible] FnOk loopW idxF retX arrF

def allDig (t : ByteArray) (n : Nat) : Bool := (List.range n).all fun i => digitB (byteAt t i)
def dval (t : ByteArray) : Nat → Int
  | 0 => 0
  | k + 1 => dval t k * 10 + (byteAt t k - 48)
def digOk (t : ByteArray) (m : Nat) : Bool := decide (1 ≤ t.size) && decide (t.size ≤ m) && allDig t t.size
def digV (t : ByteArray) (m : Nat) : Int := if digOk t m then dval t t.size else 0
theorem allDig_iff {t : ByteArray} {n : Nat} : allDig t n = true ↔ ∀ i, i < n → digitB (byteAt t i) = true := by simp [allDig]
theorem allDig_succ {t : ByteArray} {n : Nat} : allDig t (n + 1) = (allDig t n && digitB (byteAt t n)) := by simp [allDig, List.range_succ]
theorem digit_bd {c : Int} (h : digitB c = true) : 48 ≤ c ∧ c ≤ 57 := by simp [digitB] at h; exact h
theorem dval_bd {t : ByteArray} : ∀ {n : Nat}, allDig t n = true → 0 ≤ dval t n ∧ dval t n < 10 ^ n
  | 0, _ => ⟨Int.le_refl _, by simp [dval]⟩
  | n + 1, h => by
    rw [allDig_succ, Bool.and_eq_true] at h
    have h1 := dval_bd h.1
    have h2 := digit_bd h.2
    rw [dval, Int.pow_succ]
    omega
theorem pow_mono {a b : Nat} (h : a ≤ b) : (10 : Int) ^ a ≤ 10 ^ b := by
  exact_mod_cast Nat.pow_le_pow_right (by decide) h
theorem dval_15 {t : ByteArray} {n : Nat} (hn : n ≤ 15) (h : allDig t n = true) : 0 ≤ dval t n ∧ dval t n < 1000000000000000 := by
  have h1 := dval_bd h
  have h2 := pow_mono hn
  have h3 : (10 : Int) ^ 15 = 1000000000000000 := by decide
  omega
theorem digOk_inv {t : ByteArray} {m : Nat} (h : digOk t m = true) : 1 ≤ t.size ∧ t.size ≤ m ∧ allDig t t.size = true := by
  simp only [digOk, Bool.and_eq_true, decide_eq_true_eq] at h; exact ⟨h.1.1, h.1.2, h.2⟩
theorem digOk_mk {t : ByteArray} {m : Nat} (h1 : 1 ≤ t.size) (h2 : t.size ≤ m) (h3 : allDig t t.size = true) : digOk t m = true := by
  simp only [digOk, Bool.and_eq_true, decide_eq_true_eq]; exact ⟨⟨h1, h2⟩, h3⟩
theorem digOk_not {t : ByteArray} {m i : Nat} (hi : i < t.size) (h : digitB (byteAt t i) = false) : digOk t m = false := by
  cases hd : digOk t m
  · rfl
  · have := allDig_iff.1 (digOk_inv hd).2.2 i hi
    rw [h] at this; contradiction
theorem digitB_low {c : Int} (h : digitB c = true) : c < 128 := by have := digit_bd h; omega
abbrev DgR (a : Int) (b : Bool) : SV := .tup [(false, [.dv (.int .i64 a)]), (false, [.dv (.bool b)])]
theorem token_digits (t : ByteArray) (m : Nat) (hm : m ≤ 15) : FnOk Tryd.prog F.token_digits [Tx t, I m] [] 0 (DgR (digV t m) (digOk t m)) [] 0 := by
  refine fnOk tab mix G.token_digits rfl rfl (by kernel_rfl) rfl rfl ?_
  (conv => whnf)
  have bad : digOk t m = false → DgR (digV t m) (digOk t m) = DgR 0 false := fun h => by rw [digV, h]; rfl
  refine ask_m (fun h => ?_) (fun h => ?_)
  · have h : t.size = 0 := by simpa using h
    rw [bad (by simp [digOk, h])]
    (conv => whnf)
    refine ret0 ?_
    exact ⟨[], ⟨rfl, trivial⟩, trivial⟩
  have h1 : 1 ≤ t.size := by have : ¬ (t.size : Int) = 0 := by simpa using h
                             omega
  (conv => whnf)
  refine ask_m (fun h => ?_) (fun h => ?_)
  · have h : ¬ t.size ≤ m := by have := of_decide_eq_true h; omega
    rw [bad (by simp [digOk, h])]
    (conv => whnf)
    refine ret0 ?_
    exact ⟨[], ⟨rfl, trivial⟩, trivial⟩
  have h2 : t.size ≤ m := by have := of_decide_eq_false h; omega
  (conv => whnf)
  refine loop_intro (fun k : Nat => ⟨[(6, I (dval t k)), (19, .one (.vptr 0 0))], [(0, .iter t k)], 1⟩) (fun k => k ≤ t.size ∧ allDig t k = true) (fun k => t.size - k) [] 0 [] ⟨Nat.zero_le _, rfl⟩ ⟨⟨rfl, rfl, trivial⟩, ⟨rfl, trivial⟩⟩ ?_
  rintro k ⟨hk, hall⟩
  (conv => whnf)
  refine ask_m (fun h => ?_) (fun h => ?_)
  · have hlt : k < t.size := of_decide_eq_true h
    have F : digitB (Utf8.decode t k).1 = digitB (byteAt t k) ∧ (digitB (byteAt t k) = true → Utf8.decode t k = ((byteAt t k).toNat, 1)) := by
      have hb := byteAt_get hlt
      by_cases ha : (t[k]'hlt).toNat < 128
      · rw [decode_ascii t k hlt ha, hb]; exact ⟨rfl, fun _ => by simp⟩
      · have := (decode_high t k hlt (by omega)).1
        have h1 : digitB (byteAt t k) = false := by
          rcases hn : digitB (byteAt t k) with _ | _
          · rfl
          · have := digitB_low hn; omega
        have h2 : digitB ((Utf8.decode t k).1 : Int) = false := by
          rcases hn : digitB ((Utf8.decode t k).1 : Int) with _ | _
          · rfl
          · have := digitB_low hn; omega
        rw [h1, h2]; exact ⟨rfl, fun h => by cases h⟩
    (conv => whnf)
    refine call_i (token_isDigit (Utf8.decode t k).1) ?_
    (conv => whnf)
    refine ask_m (fun h => ?_) (fun h => ?_)
    · have h : digitB (byteAt t k) = false := by rw [← F.1]; simpa using h
      rw [bad (digOk_not hlt h)]
      (conv => whnf)
      refine ret0 ?_
      exact ⟨[], ⟨rfl, trivial⟩, trivial⟩
    · have h : digitB (byteAt t k) = true := by rw [← F.1]; simpa using h
      have hd := digit_bd h
      have hv := dval_15 (by omega) hall
      rw [F.2 h]
      simp only
      have e : (((byteAt t k).toNat : Nat) : Int) = byteAt t k := by omega
      (conv => whnf)
      rw [e]
      refine ⟨k + 1, [], ⟨hlt, by rw [allDig_succ, hall, h]; rfl⟩, by omega, ⟨⟨eqI ?_, rfl, trivial⟩, ⟨rfl, trivial⟩⟩⟩
      have w1 : IntKind.i32.wrap (byteAt t k - 48) = byteAt t k - 48 := by rw [IntKind.wrap_i32]; omega
      rw [w1, dval, w64 (x := dval t k * 10) (by omega) (by omega), w64 (x := byteAt t k - 48) (by omega) (by omega), w64] <;> omega
  · have hk : k = t.size := by have := of_decide_eq_false h; omega
    subst hk
    have e := digOk_mk h1 h2 hall
    rw [digV, e, if_pos rfl]
    (conv => whnf)
    refine ret0 ?_
    exact ⟨[], ⟨rfl, trivial⟩, trivial⟩
theorem token_signed (n : Int) (b : Bool) (h1 : -4611686018427387904 ≤ n) (h2 : n ≤ 4611686018427387904) : FnOk Tryd.prog F.token_signed [I n, Bo b] [] 0 (I (if b then -n else n)) [] 0 := by
  refine fnOk tab mix G.token_signed rfl rfl (by kernel_rfl) rfl rfl ?_
  (conv => whnf)
  refine ask_m (fun h => ?_) (fun h => ?_)
  · subst h
    (conv => whnf)
    refine ret0 ?_
    exact ret_i (by rw [w64] <;> simp <;> omega) rfl
  · subst h
    (conv => whnf)
    refine ret0 ?_
    exact ret_i rfl rfl

/- the reference -/
theorem dpre_ex (t : ByteArray) : ∃ j, j ≤ t.size ∧ allDig t j = true ∧ (j = t.size ∨ digitB (byteAt t j) = false) := by
  have key : ∀ d j, t.size - j = d → j ≤ t.size → allDig t j = true → ∃ j, j ≤ t.size ∧ allDig t j = true ∧ (j = t.size ∨ digitB (byteAt t j) = false) := by
    intro d
    induction d with
    | zero => intro j h1 h2 h3; exact ⟨j, h2, h3, .inl (by omega)⟩
    | succ d ih =>
      intro j h1 h2 h3
      cases h : digitB (byteAt t j)
      · exact ⟨j, h2, h3, .inr h⟩
      · exact ih (j + 1) (by omega) (by omega) (by rw [allDig_succ, h3, h]; rfl)
  exact key _ 0 rfl (Nat.zero_le _) rfl
theorem dpre_one {t : ByteArray} {j p : Nat} (hj : j ≤ t.size) (h1 : allDig t j = true) (h2 : j = t.size ∨ digitB (byteAt t j) = false) (hp : p ≤ t.size) (h3 : allDig t p = true) (h4 : p = t.size ∨ digitB (byteAt t p) = false) : j = p := by
  rcases Nat.lt_trichotomy j p with h | h | h
  · have := allDig_iff.1 h3 j h
    rcases h2 with h2 | h2
    · omega
    · rw [h2] at this; contradiction
  · exact h
  · have := allDig_iff.1 h1 p h
    rcases h4 with h4 | h4
    · omega
    · rw [h4] at this; contradiction
abbrev DnR (a b : Int) : SV := .tup [(false, [.dv (.int .i64 a)]), (false, [.dv (.int .i64 b)])]
theorem allDig_le {t : ByteArray} {a b : Nat} (h : allDig t b = true) (hab : a ≤ b) : allDig t a = true := allDig_iff.2 fun i hi => allDig_iff.1 h i (by omega)
end Go.Proofs.YtoabhjflfbblfaaDoor

/- Number and Integer: token and the reference. -/
namespace Go.Proofs.YtoabhjflfbblfaaDoor
open Eng
set_option maxRecDepth 10000
attribute [local irreducible] FnOk loopW idxF retX arrF

/- integers -/
def intOf (s : ByteArray) : Int × Bool := (if headB s 45 then - digV (tailB s 45) 15 else digV (tailB s 45) 15, digOk (tailB s 45) 15)
theorem digV_bd {t : ByteArray} {m : Nat} (hm : m ≤ 15) : 0 ≤ digV t m ∧ digV t m < 1000000000000000 := by
  unfold digV; split
  · rename_i h
    obtain ⟨_, h2, h3⟩ := digOk_inv h
    exact dval_15 (by omega) h3
  · decide
theorem tail_size {s : ByteArray} {c : UInt8} : (tailB s c).size ≤ s.size := by
  unfold tailB; split
  · rw [ByteArray.size_extract]; omega
  · exact Nat.le_refl _
/- numbers -/
/-- the number of a text without a sign -/
def numN (t : ByteArray) : Option Int :=
  if digOk (cutL t 46) 5 = false then none
  else if cutB t 46 = false then some ((dval (cutL t 46) (cutL t 46).size * 1000000 * 65536 + 500000) / 1000000)
  else if digOk (cutR t 46) 6 = false then none
  else some (((dval (cutL t 46) (cutL t 46).size * 1000000 + dval (cutR t 46) (cutR t 46).size * 10 ^ (6 - (cutR t 46).size)) * 65536 + 500000) / 1000000)
def numOf (s : ByteArray) : Int × Bool := match numN (tailB s 45) with
  | none => (0, false)
  | some v => if 2147483648 < v then (0, false) else (if headB s 45 then -v else v, true)
abbrev NuR (r : Int × Bool) : SV := DgR r.1 r.2
theorem cutR_size {t : ByteArray} {c : UInt8} : (cutR t c).size ≤ t.size := by
  unfold cutR; split
  · rw [ByteArray.size_extract]; omega
  · exact Nat.zero_le _
theorem token_Number (s : ByteArray) (hs : s.size ≤ 4611686018427387904) : FnOk Tryd.prog F.token_Number [Tx s] [] 0 (NuR (numOf s)) [] 0 := by
  refine fnOk tab mix G.token_Number rfl rfl (by kernel_rfl) rfl rfl ?_
  (conv => whnf)
  refine call_i (st_CutPrefix s 45) ?_
  (conv => whnf)
  have hsz := tail_size (s := s) (c := 45)
  unfold numOf
  generalize headB s 45 = b
  generalize tailB s 45 = t at *
  refine call_i (st_Cut t 46 (by omega)) ?_
  (conv => whnf)
  refine call_i (token_digits (cutL t 46) 5 (by decide)) ?_
  (conv => whnf)
  refine ask_m (fun h1 => ?_) (fun h1 => ?_)
  · have h1 : digOk (cutL t 46) 5 = false := by simpa using h1
    have e : numN t = none := by rw [numN, if_pos h1]
    simp only [e]
    (conv => whnf)
    refine ret0 ?_
    exact ⟨[], ⟨rfl, trivial⟩, trivial⟩
  have h1 : digOk (cutL t 46) 5 = true := by simpa using h1
  have hv : digV (cutL t 46) 5 = dval (cutL t 46) (cutL t 46).size := by rw [digV, if_pos h1]
  obtain ⟨g1, g2, g3⟩ := digOk_inv h1
  have hw := dval_bd g3
  have hw5 := pow_mono g2
  have h105 : (10 : Int) ^ 5 = 100000 := by decide
  have hN : numN t = if cutB t 46 = false then some ((dval (cutL t 46) (cutL t 46).size * 1000000 * 65536 + 500000) / 1000000)
    else if digOk (cutR t 46) 6 = false then none
    else some (((dval (cutL t 46) (cutL t 46).size * 1000000 + dval (cutR t 46) (cutR t 46).size * 10 ^ (6 - (cutR t 46).size)) * 65536 + 500000) / 1000000) := by rw [numN, if_neg (by rw [h1]; simp)]
  rw [hv]
  generalize hwv : dval (cutL t 46) (cutL t 46).size = v at *
  have hv5 : v < 100000 := by omega
  -- the end, for whatever sum
  have last : ∀ n : Int, 0 ≤ n → n < 100000000000 → (IntKind.i64.wrap ((IntKind.i64.wrap (IntKind.i64.wrap (n * 65536) + 500000)).tdiv 1000000)) = (n * 65536 + 500000) / 1000000 ∧ 0 ≤ (n * 65536 + 500000) / 1000000 ∧ (n * 65536 + 500000) / 1000000 < 10000000000 := fun n h0 h1 => by
    have q : 0 ≤ (n * 65536 + 500000) / 1000000 ∧ (n * 65536 + 500000) / 1000000 < 10000000000 := by omega
    refine ⟨?_, q⟩
    rw [w64 (x := n * 65536) (by omega) (by omega), w64 (x := n * 65536 + 500000) (by omega) (by omega), Int.tdiv_eq_ediv_of_nonneg (by omega), w64 (by omega) (by omega)]
  (conv => whnf)
  refine ask_m (fun h2 => ?_) (fun h2 => ?_)
  · have h2 : cutB t 46 = true := h2
    rw [if_neg (by rw [h2]; simp)] at hN
    (conv => whnf)
    refine call_i (token_digits (cutR t 46) 6 (by decide)) ?_
    (conv => whnf)
    refine ask_m (fun h3 => ?_) (fun h3 => ?_)
    · have h3 : digOk (cutR t 46) 6 = false := by simpa using h3
      rw [if_pos h3] at hN
      simp only [hN]
      (conv => whnf)
      refine ret0 ?_
      exact ⟨[], ⟨rfl, trivial⟩, trivial⟩
    have h3 : digOk (cutR t 46) 6 = true := by simpa using h3
    rw [if_neg (by rw [h3]; simp)] at hN
    have hu : digV (cutR t 46) 6 = dval (cutR t 46) (cutR t 46).size := by rw [digV, if_pos h3]
    obtain ⟨f1, f2, f3⟩ := digOk_inv h3
    have hp := dval_bd f3
    rw [hu]
    (conv => whnf)
    generalize dval (cutR t 46) (cutR t 46).size = u at *
    generalize (cutR t 46).size = z at *
    have w6 : IntKind.i64.wrap (6 - (z : Int)) = ((6 - z : Nat) : Int) := by rw [w64] <;> omega
    have hu6 : ∀ i, i ≤ 6 - z → 0 ≤ u * 10 ^ i ∧ u * 10 ^ i < 1000000 := fun i hi => by
      have a1 : (10 : Int) ^ z * 10 ^ i = 10 ^ (z + i) := (Int.pow_add ..).symm
      have a2 : (10 : Int) ^ (z + i) ≤ 10 ^ 6 := pow_mono (by omega)
      have a3 : (0 : Int) < 10 ^ i := Int.pow_pos (by decide)
      have a4 : (10 : Int) ^ 6 = 1000000 := by decide
      have a5 : u * 10 ^ i < 10 ^ z * 10 ^ i := Int.mul_lt_mul_of_pos_right hp.2 a3
      have a6 : 0 ≤ u * 10 ^ i := Int.mul_nonneg hp.1 (by omega)
      omega
    rw [w6]
    refine loop_intro (fun i : Nat => ⟨[(5, Bo b), (9, I (IntKind.i64.wrap (v * 1000000))), (11, I (u * 10 ^ i)), (43, I ((6 - z : Nat) : Int)), (44, I i)], [], 0⟩) (fun i => i ≤ 6 - z) (fun i => 6 - z - i) [] 0 [] (Nat.zero_le _) ⟨⟨rfl, rfl, eqI (by simp), rfl, rfl, trivial⟩, trivial⟩ ?_
    rintro i hi
    (conv => whnf)
    refine ask_m (fun h => ?_) (fun h => ?_)
    · have hlt : i < 6 - z := by have := of_decide_eq_true h; omega
      have a1 := hu6 i hi
      have a2 := hu6 (i + 1) hlt
      have hii : IntKind.i64.wrap ((i : Int) + 1) = ((i + 1 : Nat) : Int) := by rw [w64] <;> omega
      (conv => whnf)
      refine ⟨i + 1, [], hlt, by omega, ⟨⟨rfl, rfl, eqI ?_, rfl, eqI hii, trivial⟩, trivial⟩⟩
      rw [w64 (by omega) (by omega), Int.pow_succ, Int.mul_assoc]
    · have hi6 : i = 6 - z := by have := of_decide_eq_false h; omega
      subst hi6
      have a1 := hu6 _ hi
      obtain ⟨l1, l2, l3⟩ := last (v * 1000000 + u * 10 ^ (6 - z)) (by omega) (by omega)
      (conv => whnf)
      refine ⟨by omega, ?_⟩
      (conv => whnf)
      rw [w64 (x := v * 1000000) (by omega) (by omega), w64 (x := v * 1000000 + u * 10 ^ (6 - z)) (by omega) (by omega), l1]
      simp only [hN]
      generalize ((v * 1000000 + u * 10 ^ (6 - z)) * 65536 + 500000) / 1000000 = q at *
      refine ask_m (fun h4 => ?_) (fun h4 => ?_)
      · have h4 := of_decide_eq_true h4
        rw [if_pos h4]
        (conv => whnf)
        refine ret0 ?_
        exact ⟨[], ⟨rfl, trivial⟩, trivial⟩
      · have h4 := of_decide_eq_false h4
        rw [if_neg h4]
        (conv => whnf)
        refine call_i (token_signed q b (by omega) (by omega)) ?_
        (conv => whnf)
        (conv => whnf)
        refine ret0 ?_
        exact ⟨[], ⟨rfl, trivial⟩, trivial⟩
  · have h2 : cutB t 46 = false := h2
    rw [if_pos h2] at hN
    obtain ⟨l1, l2, l3⟩ := last (v * 1000000) (by omega) (by omega)
    (conv => whnf)
    refine ⟨by omega, ?_⟩
    (conv => whnf)
    rw [w64 (x := v * 1000000) (by omega) (by omega), l1]
    simp only [hN]
    generalize (v * 1000000 * 65536 + 500000) / 1000000 = q at *
    refine ask_m (fun h4 => ?_) (fun h4 => ?_)
    · have h4 := of_decide_eq_true h4
      rw [if_pos h4]
      (conv => whnf)
      refine ret0 ?_
      exact ⟨[], ⟨rfl, trivial⟩, trivial⟩
    · have h4 := of_decide_eq_false h4
      rw [if_neg h4]
      (conv => whnf)
      refine call_i (token_signed q b (by omega) (by omega)) ?_
      (conv => whnf)
      (conv => whnf)
      refine ret0 ?_
      exact ⟨[], ⟨rfl, trivial⟩, trivial⟩
end Go.Proofs.YtoabhjflfbblfaaDoor

/- The reference's Name and Number. -/
namespace Go.Proofs.YtoabhjflfbblfaaDoor
open Eng
set_option maxRecDepth 10000
attribute [local irreducible] FnOk loopW idxF retX arrF

theorem allDig_ext {t : ByteArray} {a n : Nat} (h : a + n ≤ t.size) : allDig (t.extract a (a + n)) n = (List.range n).all fun i => digitB (byteAt t (a + i)) := by
  unfold allDig
  rw [Bool.eq_iff_iff, List.all_eq_true, List.all_eq_true]
  refine ⟨fun H i hi => ?_, fun H i hi => ?_⟩
  · have := H i hi
    rwa [byteAt_ext h (by have := List.mem_range.1 hi; omega)] at this
  · rw [byteAt_ext h (by have := List.mem_range.1 hi; omega)]; exact H i hi
theorem dval_ext {t : ByteArray} {j : Nat} (hj : j ≤ t.size) : ∀ i, i ≤ j → dval (t.extract 0 j) i = dval t i
  | 0, _ => rfl
  | i + 1, h => by rw [dval, dval, dval_ext hj i (by omega), byteAt_ext hj (by omega), Nat.zero_add]
theorem allDig_pre {t : ByteArray} {j : Nat} (hj : j ≤ t.size) : allDig (t.extract 0 j) j = allDig t j := by
  have := allDig_ext (t := t) (a := 0) (n := j) (by omega)
  simp only [Nat.zero_add] at this
  rw [this]; rfl
theorem not46 {c : Int} (h : digitB c = true) : c ≠ 46 := by have := digit_bd h; omega
theorem place_eq {t : ByteArray} {j : Nat} (hj : j < t.size) (h : byteAt t j = 46) (hb : ∀ i, i < j → byteAt t i ≠ 46) : placeOfB t 46 = j := by
  rcases place_spec t 46 with ⟨_, h2⟩ | ⟨p, h1, h2, h3, h4⟩
  · exact absurd h (h2 j hj)
  · rw [h1]
    rcases Nat.lt_trichotomy p j with hlt | rfl | hlt
    · exact absurd h3 (hb p hlt)
    · rfl
    · exact absurd h (h4 j hlt)
theorem place_none {t : ByteArray} (h : ∀ i, i < t.size → byteAt t i ≠ 46) : placeOfB t 46 = -1 := by
  rcases place_spec t 46 with ⟨h1, _⟩ | ⟨p, h1, h2, h3, h4⟩
  · exact h1
  · exact absurd h3 (h p h2)
/-- numN, told by the length of the first digits -/
theorem numN_whole {t : ByteArray} (h1 : allDig t t.size = true) (h2 : 1 ≤ t.size) (h3 : t.size ≤ 5) : numN t = some (dval t t.size * 65536) := by
  have hp : placeOfB t 46 = -1 := place_none fun i hi => not46 (allDig_iff.1 h1 i hi)
  have hl : cutL t 46 = t := by rw [cutL, hp, if_neg (by decide)]
  have hc : cutB t 46 = false := by rw [cutB, hp]; rfl
  have hv := dval_15 (by omega) h1
  rw [numN, hl, hc, if_neg (by rw [digOk_mk h2 h3 h1]; simp), if_pos rfl]
  congr 1; omega
theorem numN_first {t : ByteArray} {j : Nat} (hj : j ≤ t.size) (h1 : allDig t j = true) (h2 : j = t.size ∨ digitB (byteAt t j) = false) (h : ¬ (1 ≤ j ∧ j ≤ 5)) : numN t = none := by
  rw [numN, if_pos]
  cases hd : digOk (cutL t 46) 5
  · rfl
  · obtain ⟨g1, g2, g3⟩ := digOk_inv hd
    rcases place_spec t 46 with ⟨p1, p2⟩ | ⟨p, p1, p2, p3, p4⟩
    · have hl : cutL t 46 = t := by rw [cutL, p1, if_neg (by decide)]
      rw [hl] at g1 g2 g3
      have := dpre_one hj h1 h2 (Nat.le_refl _) g3 (.inl rfl)
      omega
    · have hl : cutL t 46 = t.extract 0 p := by rw [cutL, p1, if_pos (by omega), Int.toNat_natCast]
      have hs : (t.extract 0 p).size = p := by rw [ByteArray.size_extract]; omega
      rw [hl, hs] at g1 g2 g3
      rw [allDig_pre (by omega)] at g3
      have h46 : digitB (byteAt t p) = false := by rw [p3]; rfl
      have := dpre_one hj h1 h2 (by omega) g3 (.inr h46)
      omega
theorem numN_other {t : ByteArray} {j : Nat} (hj : j < t.size) (h1 : allDig t j = true) (h2 : digitB (byteAt t j) = false) (h : byteAt t j ≠ 46) : numN t = none := by
  rw [numN, if_pos]
  rcases place_spec t 46 with ⟨p1, p2⟩ | ⟨p, p1, p2, p3, p4⟩
  · have hl : cutL t 46 = t := by rw [cutL, p1, if_neg (by decide)]
    rw [hl]; exact digOk_not hj h2
  · have hjp : j < p := by
      rcases Nat.lt_trichotomy p j with hlt | rfl | hlt
      · exact absurd p3 (not46 (allDig_iff.1 h1 p hlt))
      · exact absurd p3 h
      · exact hlt
    have hl : cutL t 46 = t.extract 0 p := by rw [cutL, p1, if_pos (by omega), Int.toNat_natCast]
    rw [hl]
    refine digOk_not (i := j) (by rw [ByteArray.size_extract]; omega) ?_
    rw [byteAt_ext (by omega) (by omega), Nat.zero_add]; exact h2
theorem numN_point {t : ByteArray} {j : Nat} (hj : j < t.size) (h1 : allDig t j = true) (h46 : byteAt t j = 46) (ha : 1 ≤ j) (hb : j ≤ 5) :
    numN t = if digOk (t.extract (j + 1) t.size) 6 = false then none else some (((dval t j * 1000000 + dval (t.extract (j + 1) t.size) (t.extract (j + 1) t.size).size * 10 ^ (6 - (t.extract (j + 1) t.size).size)) * 65536 + 500000) / 1000000) := by
  have hp := place_eq hj h46 fun i hi => not46 (allDig_iff.1 h1 i hi)
  have hl : cutL t 46 = t.extract 0 j := by rw [cutL, hp, if_pos (by omega), Int.toNat_natCast]
  have hr : cutR t 46 = t.extract (j + 1) t.size := by rw [cutR, hp, if_pos (by omega), Int.toNat_natCast]
  have hc : cutB t 46 = true := by rw [cutB, hp]; exact decide_eq_true (by omega)
  have hs : (t.extract 0 j).size = j := by rw [ByteArray.size_extract]; omega
  have hd : digOk (t.extract 0 j) 5 = true := digOk_mk (by omega) (by omega) (by rw [hs, allDig_pre (by omega)]; exact h1)
  rw [numN, hl, hr, hc, hs, dval_ext (by omega) j (Nat.le_refl _), if_neg (by rw [hd]; simp), if_neg (by simp)]
theorem round_eq {v u : Int} {k : Nat} (h1 : 1 ≤ k) (h6 : k ≤ 6) (hu : 0 ≤ u) : ((v * 1000000 + u * 10 ^ (6 - k)) * 65536 + 500000) / 1000000 = v * 65536 + (2 * u * 65536 + 10 ^ k) / (2 * 10 ^ k) := by
  have h : k = 1 ∨ k = 2 ∨ k = 3 ∨ k = 4 ∨ k = 5 ∨ k = 6 := by omega
  rcases h with rfl | rfl | rfl | rfl | rfl | rfl <;> simp only [Nat.reduceSub, Int.reducePow] <;> omega
end Go.Proofs.YtoabhjflfbblfaaDoor

/- Decimal texts as numbers. -/
namespace Go.Proofs.YtoabhjflfbblfaaDoor
open Eng
set_option maxRecDepth 10000

theorem decB_dig (k n : Nat) : allDig (decB k n) k = true := by
  rw [allDig_iff]
  intro i hi
  rw [decB_byte n k i hi]
  have h : ∀ d, d < 10 → digitB (48 + (d : Nat)) = true := by decide
  exact h _ (Nat.mod_lt _ (by decide))
theorem decB_val (k n : Nat) : ∀ i, i ≤ k → dval (decB k n) i = (n / 10 ^ (k - i) % 10 ^ i : Nat)
  | 0, _ => by simp [dval, Nat.mod_one]
  | i + 1, h => by
    rw [dval, decB_val k n i (by omega), decB_byte n k i (by omega)]
    have e1 : n / 10 ^ (k - i) = n / 10 ^ (k - (i + 1)) / 10 := by
      rw [Nat.div_div_eq_div_mul, ← Nat.pow_succ, show (k - (i + 1)).succ = k - i by omega]
    rw [e1, show k - 1 - i = k - (i + 1) by omega]
    generalize n / 10 ^ (k - (i + 1)) = A
    have h1 : A % 10 ^ (i + 1) = (A / 10 % 10 ^ i) * 10 + A % 10 := by
      rw [Nat.pow_succ, Nat.mul_comm (10 ^ i) 10, Nat.mod_mul]; omega
    rw [h1]; omega
theorem dlen_ex {n k m : Nat} (hn : n < 10 ^ m) (hk : k ≤ m) : ∃ j, j ≤ m ∧ n / 10 ^ j = 0 ∧ k ≤ j ∧ ∀ i, i < j → ¬ (n / 10 ^ i = 0 ∧ k ≤ i) := by
  have key : ∀ d j, m - j = d → j ≤ m → (∀ i, i < j → ¬ (n / 10 ^ i = 0 ∧ k ≤ i)) → ∃ j, j ≤ m ∧ n / 10 ^ j = 0 ∧ k ≤ j ∧ ∀ i, i < j → ¬ (n / 10 ^ i = 0 ∧ k ≤ i) := by
    intro d
    induction d with
    | zero =>
      intro j h1 h2 h3
      obtain rfl : j = m := by omega
      exact ⟨j, Nat.le_refl _, Nat.div_eq_of_lt hn, hk, h3⟩
    | succ d ih =>
      intro j h1 h2 h3
      by_cases h : n / 10 ^ j = 0 ∧ k ≤ j
      · exact ⟨j, h2, h.1, h.2, h3⟩
      · exact ih (j + 1) (by omega) (by omega) fun i hi => by
          rcases Nat.lt_or_ge i j with h' | h'
          · exact h3 i h'
          · obtain rfl : i = j := by omega
            exact h
  exact key _ 0 rfl (Nat.zero_le _) fun i hi => by omega
theorem lt_of_div {n j : Nat} (h : n / 10 ^ j = 0) : n < 10 ^ j := by
  rcases Nat.lt_or_ge n (10 ^ j) with h' | h'
  · exact h'
  · have := Nat.div_pos h' (Nat.pow_pos (by decide)); omega
/-- the number of a decimal text with a point -/
theorem numOf_point {j n w f : Nat} (hj1 : 1 ≤ j) (hj5 : j ≤ 5) (hw : w / 10 ^ j = 0) (hn1 : 1 ≤ n) (hn6 : n ≤ 6) (hf : f < 10 ^ n) :
    numOf ((decB j w ++ ⟨#[46]⟩) ++ decB n f) = if 2147483648 < ((w * 1000000 + f * 10 ^ (6 - n)) * 65536 + 500000 : Int) / 1000000 then (0, false) else (((w * 1000000 + f * 10 ^ (6 - n)) * 65536 + 500000 : Int) / 1000000, true) := by
  have hw' := lt_of_div hw
  have s1 : (decB j w).size = j := decB_size j w
  have s2 : (decB n f).size = n := decB_size n f
  have s3 : (decB j w ++ ⟨#[46]⟩).size = j + 1 := by rw [ByteArray.size_append, s1]; rfl
  have s4 : ((decB j w ++ ⟨#[46]⟩) ++ decB n f).size = j + 1 + n := by rw [ByteArray.size_append, s3, s2]
  have b1 : ∀ i, i < j → byteAt ((decB j w ++ ⟨#[46]⟩) ++ decB n f) i = byteAt (decB j w) i := fun i hi => by
    rw [byteAt_app, if_pos (by omega), byteAt_app, if_pos (by omega)]
  have b2 : byteAt ((decB j w ++ ⟨#[46]⟩) ++ decB n f) j = 46 := by
    rw [byteAt_app, if_pos (by omega), byteAt_app, if_neg (by omega), s1, Nat.sub_self]; rfl
  have e : ((decB j w ++ ⟨#[46]⟩) ++ decB n f).extract (j + 1) ((decB j w ++ ⟨#[46]⟩) ++ decB n f).size = decB n f := by
    refine ByteArray.ext_getElem (by rw [ByteArray.size_extract, s4, s2]; omega) fun i hi hi' => ?_
    rw [ByteArray.getElem_extract, ByteArray.getElem_append_right (by omega)]
    congr 1; omega
  generalize (decB j w ++ ⟨#[46]⟩) ++ decB n f = t at *
  have d1 : allDig t j = true := by
    rw [allDig_iff]
    intro i hi
    rw [b1 i hi]; exact allDig_iff.1 (decB_dig j w) i hi
  have v1 : dval t j = w := by
    have : ∀ i, i ≤ j → dval t i = dval (decB j w) i := by
      intro i
      induction i with
      | zero => intro _; rfl
      | succ i ih => intro h; rw [dval, dval, ih (by omega), b1 i (by omega)]
    rw [this j (Nat.le_refl _), decB_val j w j (Nat.le_refl _), Nat.sub_self, Nat.pow_zero, Nat.div_one, Nat.mod_eq_of_lt hw']
  have v2 : dval (decB n f) n = f := by rw [decB_val n f n (Nat.le_refl _), Nat.sub_self, Nat.pow_zero, Nat.div_one, Nat.mod_eq_of_lt hf]
  have hh : headB t 45 = false := by
    have := digit_bd (allDig_iff.1 d1 0 (by omega))
    simp only [headB, Bool.and_eq_false_iff, decide_eq_false_iff_not]
    right
    show ¬ byteAt t 0 = 45
    omega
  have hp := numN_point (t := t) (j := j) (by omega) d1 b2 hj1 hj5
  rw [e, s2, v1, v2, if_neg (by rw [digOk_mk (by omega) (by omega) (by rw [s2]; exact decB_dig n f)]; simp)] at hp
  rw [numOf, tailB, hh, if_neg (by simp), hp]
  simp
end Go.Proofs.YtoabhjflfbblfaaDoor

/- The number of a formatted text. No program in sight. -/
namespace Go.Proofs.YtoabhjflfbblfaaDoor
open Eng
set_option maxRecDepth 10000

theorem dec_ext (k v m : Nat) (h : m ≤ k) : (decB k v).extract 0 m = decB m (v / 10 ^ (k - m)) := by
  have s1 : (decB k v).size = k := decB_size k v
  have s2 : ((decB k v).extract 0 m).size = m := by rw [ByteArray.size_extract]; omega
  refine txt_eq' (s2.trans (decB_size m _).symm) fun i hi => ?_
  rw [s2] at hi
  rw [ext_byte (by omega) hi, decB_byte v k i (by omega), decB_byte _ m i hi, Nat.div_div_eq_div_mul, ← Nat.pow_add, show k - m + (m - 1 - i) = k - 1 - i by omega]
theorem trimN_zero (t : ByteArray) : ∀ n i, trimN t n ≤ i → i < n → byteAt t i = 48
  | 0, i, _, h => by omega
  | n + 1, i, h1, h2 => by
    rw [trimN] at h1
    split at h1
    · rename_i h
      rcases Nat.lt_or_ge i n with h3 | h3
      · exact trimN_zero t n i h1 h3
      · have : i = n := by omega
        subst this; exact h
    · omega
theorem frac_dec {v : Nat} (h1 : 1 ≤ v) (h2 : v ≤ 99999) : ∃ m u, 1 ≤ m ∧ m ≤ 5 ∧ (decT v 5).extract 0 (trimN (decT v 5) (decT v 5).size) = decB m u ∧ u * 10 ^ (5 - m) = v := by
  rw [dec5 h2, decB_size]
  have hm := trimN_le (decB 5 v) 5
  have hz := trimN_zero (decB 5 v) 5
  generalize trimN (decB 5 v) 5 = m at *
  have hq : v % 10 ^ (5 - m) = 0 := digs_zero v _ fun i hi => by
    have := hz (4 - i) (by omega) (by omega)
    rw [decB_byte v 5 _ (by omega), show 5 - 1 - (4 - i) = i by omega] at this
    omega
  refine ⟨m, v / 10 ^ (5 - m), ?_, hm, dec_ext 5 v m hm, ?_⟩
  · rcases Nat.eq_zero_or_pos m with rfl | h
    · have : v % 100000 = 0 := hq
      omega
    · exact h
  · exact Nat.div_mul_cancel (Nat.dvd_of_mod_eq_zero hq)
theorem num_fmtS {a : Nat} (ha : a ≤ 2147483648) : numOf (fmtS ByteArray.empty a) = ((a : Int), true) ∧ headB (fmtS ByteArray.empty a) 45 = false := by
  obtain ⟨b1, b2, b3, b4⟩ := dl20 (n := a / 65536) (k := 1) (by omega) (by omega)
  have hj5 : dl 20 (a / 65536) 1 ≤ 5 := by
    rcases Nat.lt_or_ge 5 (dl 20 (a / 65536) 1) with h | h
    · exact absurd ⟨Nat.div_eq_of_lt (by show _ < 100000; omega), by decide⟩ (b4 5 h)
    · exact h
  have hd : decT (a / 65536) 1 = decB (dl 20 (a / 65536) 1) (a / 65536) := rfl
  unfold fmtS
  rw [hd]
  generalize dl 20 (a / 65536) 1 = j at *
  have hhead : ∀ t : ByteArray, byteAt t 0 = byteAt (decB j (a / 65536)) 0 → headB t 45 = false := fun t ht => by
    rw [decB_byte _ j 0 (by omega)] at ht
    simp only [headB, Bool.and_eq_false_iff, decide_eq_false_iff_not]
    right
    show ¬ byteAt t 0 = 45
    omega
  split
  · rename_i h0
    rw [ByteArray.empty_append]
    have hall := decB_dig j (a / 65536)
    have hn := numN_whole (t := decB j (a / 65536)) (by rw [decB_size]; exact hall) (by rw [decB_size]; omega) (by rw [decB_size]; omega)
    rw [decB_size, decB_val j (a / 65536) j (Nat.le_refl _), Nat.sub_self, Nat.pow_zero, Nat.div_one, Nat.mod_eq_of_lt (lt_of_div b1)] at hn
    have hh := hhead _ rfl
    refine ⟨?_, hh⟩
    rw [numOf, tailB, hh, if_neg (by simp), hn]
    simp only
    rw [if_neg (by omega)]
    simp; omega
  · rename_i h0
    obtain ⟨m, u, m1, m5, e, hu⟩ := frac_dec (v := (2 * (a % 65536) * 100000 + 65536) / 131072) (by omega) (by omega)
    rw [fracT, e, ByteArray.empty_append]
    have hlt : u < 10 ^ m := by
      have h5 : (10 : Nat) ^ m * 10 ^ (5 - m) = 100000 := by rw [← Nat.pow_add, show m + (5 - m) = 5 by omega]
      have hp : 0 < (10 : Nat) ^ (5 - m) := Nat.pow_pos (by decide)
      refine Nat.lt_of_mul_lt_mul_right (a := 10 ^ (5 - m)) ?_
      rw [h5, hu]; omega
    have hp := numOf_point (j := j) (n := m) (w := a / 65536) (f := u) b2 hj5 b1 m1 (by omega) hlt
    have h6 : u * 10 ^ (6 - m) = (2 * (a % 65536) * 100000 + 65536) / 131072 * 10 := by rw [show 6 - m = (5 - m) + 1 by omega, Nat.pow_succ, ← Nat.mul_assoc, hu]
    have h7 : ((u : Int) * 10 ^ (6 - m)) = (((2 * (a % 65536) * 100000 + 65536) / 131072 * 10 : Nat) : Int) := by exact_mod_cast h6
    have hr : ((((a / 65536 : Nat) : Int) * 1000000 + (u : Int) * 10 ^ (6 - m)) * 65536 + 500000) / 1000000 = (a : Int) := by
      rw [h7]; omega
    rw [hr, if_neg (by omega)] at hp
    refine ⟨hp, hhead _ ?_⟩
    rw [byteAt_app, if_pos (by rw [ByteArray.size_append, decB_size]; omega), byteAt_app, if_pos (by rw [decB_size]; omega)]
theorem fmtS_app (s : ByteArray) (a : Nat) : fmtS s a = s ++ fmtS ByteArray.empty a := by
  unfold fmtS
  split
  · rw [ByteArray.empty_append]
  · rw [ByteArray.empty_append, ByteArray.append_assoc, ByteArray.append_assoc, ByteArray.append_assoc]
theorem num_neg {t : ByteArray} {v : Int} (h : numOf t = (v, true)) (hh : headB t 45 = false) : numOf (minusT ++ t) = (-v, true) := by
  have hb : headB (minusT ++ t) 45 = true := by
    simp only [headB, Bool.and_eq_true, decide_eq_true_eq]
    refine ⟨by rw [ByteArray.size_append]; show 1 ≤ 1 + _; omega, ?_⟩
    rw [byteAt_app, if_pos (by decide)]; rfl
  have ht : tailB (minusT ++ t) 45 = t := by
    rw [tailB, hb, if_pos rfl]
    refine ByteArray.ext_getElem (by rw [ByteArray.size_extract, ByteArray.size_append]; have : minusT.size = 1 := rfl; omega) fun i hi hi' => ?_
    rw [ByteArray.getElem_extract, ByteArray.getElem_append_right (by show 1 ≤ _; omega)]
    congr 1
    show 1 + i - 1 = i
    omega
  have hn : numN t = some v ∧ ¬ 2147483648 < v := by
    rw [numOf, tailB, hh, if_neg (by simp)] at h
    cases hq : numN t with
    | none => rw [hq] at h; cases h
    | some u =>
      rw [hq] at h
      simp only at h
      split at h
      · cases h
      · rename_i hu
        simp at h
        subst h
        exact ⟨rfl, hu⟩
  rw [numOf, ht, hn.1, hb]
  simp only
  rw [if_neg hn.2]; simp
/-- what is formatted is read again -/
theorem num_fmt (n : Int) : numOf (fmtT n) = (clampI n, true) := by
  have hb : -2147483648 ≤ clampI n ∧ clampI n ≤ 2147483648 := by unfold clampI; omega
  rw [fmtT]
  generalize clampI n = x at *
  obtain ⟨h1, h2⟩ := num_fmtS (a := x.natAbs) (by omega)
  split
  · rename_i h
    rw [fmtS_app, num_neg h1 h2]
    congr 1; omega
  · rename_i h
    rw [h1]
    congr 1; omega
end Go.Proofs.YtoabhjflfbblfaaDoor

/- law6: TokenFormats. -/
namespace Go.Proofs.YtoabhjflfbblfaaDoor
open Eng
set_option maxRecDepth 10000
attribute [local irreducible] FnOk loopW idxF retX arrF

theorem law6_awake : FnOk Tryd.prog F.law6_awake [] [] 0 (Bo true) [] 0 := by
  refine fnOk tab mix G.law6_awake rfl rfl (by kernel_rfl) rfl rfl ?_
  (conv => whnf)
  refine call_i (token_Split ⟨#[97, 32, 98, 35, 99]⟩) ?_
  (conv => whnf)
  refine call_i (token_Number ⟨#[45, 49, 46, 53]⟩ (by decide)) ?_
  (conv => whnf)
  have e1 : splitOf ⟨#[97, 32, 98, 35, 99]⟩ = ([⟨⟨#[97]⟩, 1, 1⟩, ⟨⟨#[98]⟩, 1, 3⟩], 0, 0) := by decide
  have e2 : numOf ⟨#[45, 49, 46, 53]⟩ = (-98304, true) := by decide
  rw [e1, e2]
  (conv => whnf)
  refine call_i (mk_Same_Word [⟨⟨#[97]⟩, 1, 1⟩, ⟨⟨#[98]⟩, 1, 3⟩] [⟨⟨#[97]⟩, 1, 1⟩, ⟨⟨#[98]⟩, 1, 3⟩] (by decide) (by decide)) ?_
  (conv => whnf)
  refine ⟨⟨trivial, trivial⟩, ?_⟩
  (conv => whnf)
  rw [decide_eq_true rfl]
  (conv => whnf)
  refine ret0 ?_
  exact ret_b rfl rfl
theorem fmtT_size (z : Int) : (fmtT z).size ≤ 62 := by
  have hb : -2147483648 ≤ clampI z ∧ clampI z ≤ 2147483648 := by unfold clampI; omega
  unfold fmtT
  generalize clampI z = x at *
  have hs : (if x < 0 then minusT else ByteArray.empty).size ≤ 1 := by split <;> decide
  generalize (if x < 0 then minusT else ByteArray.empty) = s at *
  have h1 := decT_size (n := x.natAbs / 65536) (k := 1) (by omega) (by omega)
  unfold fmtS
  split
  · rw [ByteArray.size_append]; omega
  · have h2 := decT_size (n := (2 * (x.natAbs % 65536) * 100000 + 65536) / 131072) (k := 5) (by omega) (by omega)
    have h3 : (fracT (x.natAbs % 65536)).size ≤ 20 := by
      rw [fracT, ByteArray.size_extract]; omega
    have h4 : dotT.size = 1 := rfl
    rw [ByteArray.size_append, ByteArray.size_append, ByteArray.size_append]
    omega
theorem law6_Formats (n k : Int) (_ : True) (hk : 0 ≤ k ∧ k < 256) : FnOk Tryd.prog F.law6_TokenFormats [I n, .one (.dv (.int .u8 k))] [] 0 (Bo true) [] 0 := by
  refine fnOk tab mix G.law6_TokenFormats rfl rfl (by kernel_rfl) rfl rfl ?_
  (conv => whnf)
  refine ⟨(by decide : (64 : Int) ≠ 0), ?_⟩
  (conv => whnf)
  refine ⟨(Int.tmod_nonneg _ hk.1), ?_⟩
  (conv => whnf)
  generalize n.fdiv (2 ^ (min (k.tmod 64).toNat IntKind.i64.bits)) = z
  have hz := fmtT_size z
  have e : decide (fmtT z = fmtT z) = true := by simp
  refine call_i (token_Format z) ?_
  (conv => whnf)
  refine call_i (token_Number (fmtT z) (by omega)) ?_
  (conv => whnf)
  rw [num_fmt]
  (conv => whnf)
  refine call_i (law6_awake) ?_
  (conv => whnf)
  refine call_i (ref_Format z) ?_
  (conv => whnf)
  rw [e]
  (conv => whnf)
  refine ret0 ?_
  exact ret_b (by simp [clampI]) rfl
end Go.Proofs.YtoabhjflfbblfaaDoor

/- What the row's list gives: the powers of ten; a world that holds the list. -/
namespace Go.Proofs.YtoabhjflfbblfaaDoor
open Eng
set_option maxRecDepth 100000

theorem tyB_int64 {n : Nat} {ds : List DV} (h : Typed T (n + 1) Y.int64 ds) : ∃ a, ds = encI a ∧ True := by
  obtain ⟨a, h, _⟩ := h
  exact ⟨a, h, trivial⟩
theorem gPowT : (Tryd.prog.globals[0]?).map (·.type) = some Y.a20_uint64 := by kernel_rfl
theorem uPow : Tryd.prog.underlying Y.a20_uint64 = some (.array 20 Y.uint64) := by kernel_rfl
theorem uU64 : Tryd.prog.underlying Y.uint64 = some (.int .u64) := by kernel_rfl
theorem cPow : Tryd.prog.cellsOf Y.a20_uint64 = 20 := by kernel_rfl
theorem cU64 : Tryd.prog.cellsOf Y.uint64 = 1 := by kernel_rfl
theorem laidPow : (Rows.laid_internal_strconv_uint64pow10 : DataW Unit) = Lib.tabData .u64 Lib.pow10Tab := by kernel_rfl
theorem heap_of_var {P : Program} {W : World} {name : String} {g : Nat} {cs : Array Value} (hg : P.globalNamed name = some g) (h : W.var? P name = some cs) : g < W.heap.size ∧ ∃ t fr, W.heap[g]? = some (.cells cs t fr) := by
  unfold World.var? at h
  rw [hg, Option.bind_some] at h
  split at h
  · rename_i c t fr hh
    injection h with h; subst h
    exact ⟨(Array.getElem?_eq_some_iff.1 hh).1, t, fr, hh⟩
  · cases h
theorem globs {W : World} (h : laidMet Tryd.prog Rows.tokenFormatsRow.laid W) : ∀ g ss, lkv GLV g = some ss → g < W.heap.size ∧ ∃ t fr, W.heap[g]? = some (.cells ss.toArray t fr) := by
  have h2 := laidMet.tail (laidMet.tail h)
  rw [laidPow] at h2
  have h3 := Lib.tabIs_of_head gPow gPowT uPow uU64 cU64 cPow h2
  intro g ss hg
  have hg0 : g = 0 ∧ ss = Lib.pow10Tab.map fun z => Value.int .u64 z := by
    rw [GLV, lkv] at hg
    cases hb : Nat.beq 0 g with
    | true =>
      rw [hb] at hg
      exact ⟨(Nat.eq_of_beq_eq_true hb).symm, (Option.some.inj hg).symm.trans (by kernel_rfl)⟩
    | false => rw [hb] at hg; cases hg
  obtain ⟨rfl, rfl⟩ := hg0
  exact heap_of_var gPow h3
/-- a world for the witness: the settled one, each listed variable holding what its initialiser lays -/
noncomputable def laidWorld (os : Os) : World :=
  { World.holding Tryd.prog os ⟨#[], #[], []⟩ with heap := ((World.holding Tryd.prog os ⟨#[], #[], []⟩).heap
  |>.modify 2 (fun
      | .cells _ t frozen => .cells #[.int .u8 0, .int .u8 1, .int .u8 28, .int .u8 2, .int .u8 29, .int .u8 14, .int .u8 24, .int .u8 3, .int .u8 30, .int .u8 22, .int .u8 20, .int .u8 15, .int .u8 25, .int .u8 17, .int .u8 4, .int .u8 8, .int .u8 31, .int .u8 27, .int .u8 13, .int .u8 23, .int .u8 21, .int .u8 19, .int .u8 16, .int .u8 7, .int .u8 26, .int .u8 12, .int .u8 18, .int .u8 6, .int .u8 11, .int .u8 5, .int .u8 10, .int .u8 9] t frozen
      | o => o)
  |>.modify 3 (fun
      | .cells _ t frozen => .cells #[.int .u8 0, .int .u8 1, .int .u8 56, .int .u8 2, .int .u8 57, .int .u8 49, .int .u8 28, .int .u8 3, .int .u8 61, .int .u8 58, .int .u8 42, .int .u8 50, .int .u8 38, .int .u8 29, .int .u8 17, .int .u8 4, .int .u8 62, .int .u8 47, .int .u8 59, .int .u8 36, .int .u8 45, .int .u8 43, .int .u8 51, .int .u8 22, .int .u8 53, .int .u8 39, .int .u8 33, .int .u8 30, .int .u8 24, .int .u8 18, .int .u8 12, .int .u8 5, .int .u8 63, .int .u8 55, .int .u8 48, .int .u8 27, .int .u8 60, .int .u8 41, .int .u8 37, .int .u8 16, .int .u8 46, .int .u8 35, .int .u8 44, .int .u8 21, .int .u8 52, .int .u8 32, .int .u8 23, .int .u8 11, .int .u8 54, .int .u8 26, .int .u8 40, .int .u8 15, .int .u8 34, .int .u8 20, .int .u8 31, .int .u8 10, .int .u8 25, .int .u8 14, .int .u8 19, .int .u8 9, .int .u8 13, .int .u8 8, .int .u8 7, .int .u8 6] t frozen
      | o => o)
  |>.modify 0 (fun
      | .cells _ t frozen => .cells #[.int .u64 1, .int .u64 10, .int .u64 100, .int .u64 1000, .int .u64 10000, .int .u64 100000, .int .u64 1000000, .int .u64 10000000, .int .u64 100000000, .int .u64 1000000000, .int .u64 10000000000, .int .u64 100000000000, .int .u64 1000000000000, .int .u64 10000000000000, .int .u64 100000000000000, .int .u64 1000000000000000, .int .u64 10000000000000000, .int .u64 100000000000000000, .int .u64 1000000000000000000, .int .u64 10000000000000000000] t frozen
      | o => o)
  |>.modify 5 (fun
      | .cells _ t frozen => .cells #[.int .u8 128, .int .u8 191, .int .u8 160, .int .u8 191, .int .u8 128, .int .u8 159, .int .u8 144, .int .u8 191, .int .u8 128, .int .u8 143, .int .u8 0, .int .u8 0, .int .u8 0, .int .u8 0, .int .u8 0, .int .u8 0, .int .u8 0, .int .u8 0, .int .u8 0, .int .u8 0, .int .u8 0, .int .u8 0, .int .u8 0, .int .u8 0, .int .u8 0, .int .u8 0, .int .u8 0, .int .u8 0, .int .u8 0, .int .u8 0, .int .u8 0, .int .u8 0] t frozen
      | o => o)
  |>.modify 4 (fun
      | .cells _ t frozen => .cells (Go.Pinned.utf8FirstZ.map fun n => Value.int .u8 (n : Nat)).toArray t frozen
      | o => o)) }

end Go.Proofs.YtoabhjflfbblfaaDoor
