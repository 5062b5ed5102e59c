import Derived.Test.YtopcjmipldkijaaNm
import Derived.Test.YtopcjmipldkijaaEngG
import Derived.Laws.RangeAny
/- Common ground for a seat's walks: integers, lists, texts. -/
namespace Go.Proofs.Ytopcjmipldkijaa
open Eng
set_option maxRecDepth 10000
attribute [local irreducible] FnOk loopW idxF retX arrF

theorem w64 {x : Int} (h1 : -9223372036854775808 ≤ x) (h2 : x ≤ 9223372036854775807) : IntKind.i64.wrap x = x := by
  rw [IntKind.wrap_i64]; omega
abbrev I (n : Int) : SV := .one (.dv (.int .i64 n))
abbrev Bo (b : Bool) : SV := .one (.dv (.bool b))
abbrev Tx (s : ByteArray) : SV := .one (.dv (.str s))
theorem eqI {a b : Int} (h : a = b) : I a = I b := by rw [h]
theorem eqB {a b : Bool} (h : a = b) : Bo a = Bo b := by rw [h]
def encI (n : Int) : List DV := [.int .i64 n]
abbrev Li (xs : List Int) : SV := .one (.dv (.lst 1 (xs.map encI)))
theorem all_take {α : Type} {f : α → Bool} {xs : List α} {k : Nat} {x : α} (h : (xs.take k).all f = true) (hx : xs[k]? = some x) (hf : f x = true) : (xs.take (k + 1)).all f = true := by
  rw [List.take_add_one, hx]; simp [h, hf]
theorem all_not {α : Type} {f : α → Bool} {xs : List α} {k : Nat} {x : α} (hx : xs[k]? = some x) (hf : f x = false) : xs.all f = false := by
  rw [List.all_eq_false]; exact ⟨x, List.mem_of_getElem? hx, by simp [hf]⟩
theorem any_take {α : Type} {f : α → Bool} {xs : List α} {k : Nat} {x : α} (h : (xs.take k).any f = false) (hx : xs[k]? = some x) (hf : f x = false) : (xs.take (k + 1)).any f = false := by
  rw [List.take_add_one, hx]; simp [h, hf]
theorem any_yes {α : Type} {f : α → Bool} {xs : List α} {k : Nat} {x : α} (hx : xs[k]? = some x) (hf : f x = true) : xs.any f = true := by
  rw [List.any_eq_true]; exact ⟨x, List.mem_of_getElem? hx, hf⟩
theorem drop_cons {α : Type} {l : List α} {k : Nat} {x : α} (h : l[k]? = some x) : l.drop k = x :: l.drop (k + 1) := by
  obtain ⟨h1, h2⟩ := List.getElem?_eq_some_iff.1 h
  rw [List.drop_eq_getElem_cons h1, h2]
theorem take_same {α : Type} {xs ys : List α} {k : Nat} {x : α} (h : xs.take k = ys.take k) (hx : xs[k]? = some x) (hy : ys[k]? = some x) : xs.take (k + 1) = ys.take (k + 1) := by
  rw [List.take_add_one, List.take_add_one, hx, hy, h]
theorem ne_at {α : Type} {xs ys : List α} {k : Nat} {x y : α} (hx : xs[k]? = some x) (hy : ys[k]? = some y) (h : x ≠ y) : xs ≠ ys := by
  rintro rfl; rw [hx] at hy; injection hy; contradiction
theorem range_enc {α : Type} {f : Nat → α} {enc : α → List DV} {k : Nat} : ((List.range (k + 1)).map f).map enc = ((List.range k).map f).map enc ++ [enc (f k)] := by
  simp [List.range_succ]
theorem map_of {α : Type} {enc : α → List DV} : ∀ {rs : List (List DV)}, (∀ r ∈ rs, ∃ a, r = enc a) → ∃ xs : List α, rs = xs.map enc
  | [], _ => ⟨[], rfl⟩
  | r :: rs, h => by
    obtain ⟨a, ha⟩ := h r (by simp)
    obtain ⟨xs, hx⟩ := map_of (rs := rs) fun r hr => h r (by simp [hr])
    exact ⟨a :: xs, by rw [ha, hx]; rfl⟩
theorem all2_cons {α β : Type} {R : α → β → Prop} {a : α} {l : List α} {r : List β} (h : All2 R (a :: l) r) : ∃ b r', r = b :: r' ∧ R a b ∧ All2 R l r' := by
  cases r with
  | nil => exact h.elim
  | cons b r => exact ⟨b, r, rfl, h.1, h.2⟩
theorem all2_nil {α β : Type} {R : α → β → Prop} {r : List β} (h : All2 R [] r) : r = [] := by
  cases r with
  | nil => rfl
  | cons b r => exact h.elim
theorem own : ownKnob Try.prog.godebug = none := by kernel_rfl
theorem laid : laidOutB Try.prog = true := by kernel_rfl
theorem flatI (t : Nat) (xs : List Int) : FlatB (.rows t 1 (xs.map encI)) := by
  intro r hr d hd
  obtain ⟨x, _, rfl⟩ := List.mem_map.1 hr
  simp [encI] at hd; subst hd; trivial

/- numbers -/
theorem tmod_pos {x m : Int} (hm : 0 < m) : (x.tmod m < 0 → x.tmod m + m = x % m) ∧ (0 ≤ x.tmod m → x.tmod m = x % m) ∧ -m < x.tmod m ∧ x.tmod m < m := by
  have h1 := Int.tmod_eq_emod (a := x) (b := m)
  have h2 := Int.emod_nonneg x (b := m) (by omega)
  have h3 := Int.emod_lt_of_pos x hm
  have : (m.natAbs : Int) = m := by omega
  split at h1 <;> omega
end Go.Proofs.Ytopcjmipldkijaa

/- Robots and scenes as data, and what the chapters 8 and 9 ask of them, in plain Lean. -/
namespace Go.Proofs.Ytopcjmipldkijaa
open Eng
set_option maxRecDepth 10000

structure Vec where
  x : Int
  y : Int
  z : Int
deriving DecidableEq
structure Joint where
  name : ByteArray
  kind : Int
  parent : Int
  off : Vec
  lo : Int
  hi : Int
  weight : Int
  speed : Int
  accel : Int
  torque : Int
structure Mass where
  link : Int
  mass : Int
  point : Vec
structure Shape where
  link : Int
  radius : Int
  points : List Vec
structure Skip where
  a : Int
  b : Int
deriving DecidableEq
structure Robot where
  joints : List Joint
  masses : List Mass
structure Scene where
  robot : Robot
  shapes : List Shape
  skips : List Skip
structure Pair where
  a : Int
  b : Int
deriving DecidableEq
def encV (v : Vec) : List DV := [.int .i64 v.x, .int .i64 v.y, .int .i64 v.z]
def encJ (j : Joint) : List DV := [.str j.name, .int .i64 j.kind, .int .i64 j.parent, .int .i64 j.off.x, .int .i64 j.off.y, .int .i64 j.off.z, .int .i64 j.lo, .int .i64 j.hi, .int .i64 j.weight, .int .i64 j.speed, .int .i64 j.accel, .int .i64 j.torque]
def encM (m : Mass) : List DV := [.int .i64 m.link, .int .i64 m.mass, .int .i64 m.point.x, .int .i64 m.point.y, .int .i64 m.point.z]
def encSh (s : Shape) : List DV := [.int .i64 s.link, .int .i64 s.radius, .lst 3 (s.points.map encV)]
def encSk (s : Skip) : List DV := [.int .i64 s.a, .int .i64 s.b]
def encPa (s : Pair) : List DV := [.int .i64 s.a, .int .i64 s.b]
abbrev dJs (js : List Joint) : DV := .lst 12 (js.map encJ)
abbrev dMs (ms : List Mass) : DV := .lst 5 (ms.map encM)
abbrev dShs (ss : List Shape) : DV := .lst 3 (ss.map encSh)
abbrev dSks (ss : List Skip) : DV := .lst 2 (ss.map encSk)
abbrev Ro (r : Robot) : SV := .agg [.dv (dJs r.joints), .dv (dMs r.masses)]
abbrev Sc (s : Scene) : SV := .agg [.dv (dJs s.robot.joints), .dv (dMs s.robot.masses), .dv (dShs s.shapes), .dv (dSks s.skips)]
abbrev Ve (v : Vec) : SV := .agg [.dv (.int .i64 v.x), .dv (.int .i64 v.y), .dv (.int .i64 v.z)]

abbrev Ma (m : Mass) : SV := .agg [.dv (.int .i64 m.link), .dv (.int .i64 m.mass), .dv (.int .i64 m.point.x), .dv (.int .i64 m.point.y), .dv (.int .i64 m.point.z)]
abbrev Sh (s : Shape) : SV := .agg [.dv (.int .i64 s.link), .dv (.int .i64 s.radius), .dv (.lst 3 (s.points.map encV))]
abbrev dVs (l : List Vec) : DV := .lst 3 (l.map encV)
def small (s : Scene) : Prop := s.robot.joints.length ≤ 4611686018427387904 ∧ s.robot.masses.length ≤ 4611686018427387904 ∧ s.shapes.length ≤ 4611686018427387904 ∧ s.skips.length ≤ 4611686018427387904 ∧ ∀ x ∈ s.shapes, x.points.length ≤ 4611686018427387904

/- names -/
def letterB (c : Int) : Bool := decide (97 ≤ c) && decide (c ≤ 122)
def digitB (c : Int) : Bool := decide (48 ≤ c) && decide (c ≤ 57)
def nameB (i : Nat) (c : Int) : Bool := letterB c || (decide (i ≠ 0) && (digitB c || decide (c = 95)))
def worldT : ByteArray := ⟨#[119, 111, 114, 108, 100]⟩
def nameOk (s : ByteArray) : Bool := decide (1 ≤ s.size) && decide (s.size ≤ 16) && !decide (s = worldT) && (List.range s.size).all fun i => nameB i (byteAt s i)

/- joints -/
def find : List Joint → ByteArray → Nat → Int
  | [], _, _ => -1
  | j :: js, n, k => if j.name = n then k else find js n (k + 1)
def inV (v : Vec) (m : Int) : Bool := (decide (-m ≤ v.x) && decide (v.x ≤ m)) && (decide (-m ≤ v.y) && decide (v.y ≤ m)) && (decide (-m ≤ v.z) && decide (v.z ≤ m))
def reach (k : Int) : Int := if k = 1 ∨ k = 2 ∨ k = 3 then 524288 else if k = 4 ∨ k = 5 ∨ k = 6 then 4194304 else 0
def from1 (x m : Int) : Bool := decide (1 ≤ x) && decide (x ≤ m)
def jointErr (js : List Joint) (i : Nat) (j : Joint) : Int :=
  if nameOk j.name = false ∨ find js j.name 0 ≠ i then 802
  else if j.kind < 0 ∨ 6 < j.kind then 803
  else if j.parent < -1 ∨ (i : Int) ≤ j.parent then 804
  else if inV j.off 4194304 = false then 805
  else if j.hi < j.lo ∨ j.lo < - reach j.kind ∨ reach j.kind < j.hi then 806
  else if (from1 j.weight 1024 && from1 j.speed 1048576 && from1 j.accel 1048576 && from1 j.torque 1099511627776) = false then 807
  else 0
def jointsErr (js : List Joint) : Nat → List Joint → Int
  | _, [] => 0
  | i, j :: rest => if jointErr js i j = 0 then jointsErr js (i + 1) rest else jointErr js i j
def massOk (n : Nat) (m : Mass) : Bool := decide (0 ≤ m.link) && decide (m.link < n) && from1 m.mass 65536 && inV m.point 4194304
def checkRobot (r : Robot) : Int :=
  if r.joints.length = 0 ∨ 10 < r.joints.length then 801
  else if jointsErr r.joints 0 r.joints ≠ 0 then jointsErr r.joints 0 r.joints
  else if 32 < r.masses.length ∨ r.masses.all (massOk r.joints.length) = false then 808
  else 0
def linkOk (n : Nat) (k : Int) : Bool := decide (-1 ≤ k) && decide (k < n)
def shapeErr (n : Nat) (s : Shape) : Int :=
  if linkOk n s.link = false ∨ s.radius < 1 ∨ 1048576 < s.radius ∨ s.points.length < 1 ∨ 8 < s.points.length then 902
  else if s.points.all (inV · 4194304) = false then 805
  else 0
def shapesErr (n : Nat) : List Shape → Int
  | [] => 0
  | s :: rest => if shapeErr n s = 0 then shapesErr n rest else shapeErr n s
def skipOk (n : Nat) (k : Skip) : Bool := linkOk n k.a && linkOk n k.b
def checkScene (s : Scene) : Int :=
  if checkRobot s.robot ≠ 0 then checkRobot s.robot
  else if 24 < s.shapes.length then 901
  else if shapesErr s.robot.joints.length s.shapes ≠ 0 then shapesErr s.robot.joints.length s.shapes
  else if 64 < s.skips.length then 903
  else if (s.skips.all fun k => linkOk s.robot.joints.length k.a && linkOk s.robot.joints.length k.b) = false then 903
  else 0
end Go.Proofs.Ytopcjmipldkijaa

/- Variables that hold robots and scenes. -/
namespace Go.Proofs.Ytopcjmipldkijaa
open Eng
abbrev bRo (r : Robot) : Box := .vars Y.Robot [.dv (dJs r.joints), .dv (dMs r.masses)]
abbrev bSc (s : Scene) : Box := .vars Y.Scene [.dv (dJs s.robot.joints), .dv (dMs s.robot.masses), .dv (dShs s.shapes), .dv (dSks s.skips)]
end Go.Proofs.Ytopcjmipldkijaa

/- Workspaces, modes, actions, bans as data, and what the chapters 34 and 38 ask of them, in plain Lean. -/
namespace Go.Proofs.Ytopcjmipldkijaa
open Eng
set_option maxRecDepth 10000

structure TObj where
  name : ByteArray
  shapes : List Shape
structure THand where
  link : Int
  off : Vec
structure TGrip where
  hand : Int
  place : Int
  at_ : List Int
structure TWork where
  scene : Scene
  objects : List TObj
  places : List Vec
  hands : List THand
  grips : List TGrip
  slack : Int
structure TAct where
  kind : Int
  hand : Int
  place : Int
deriving DecidableEq
structure TBan where
  mode : List Int
  act : TAct
def encO (o : TObj) : List DV := [.str o.name, .lst 3 (o.shapes.map encSh)]
def encH (h : THand) : List DV := [.int .i64 h.link, .int .i64 h.off.x, .int .i64 h.off.y, .int .i64 h.off.z]
def encG (g : TGrip) : List DV := [.int .i64 g.hand, .int .i64 g.place, .lst 1 (g.at_.map encI)]
def encAc (a : TAct) : List DV := [.int .i64 a.kind, .int .i64 a.hand, .int .i64 a.place]
def encB (b : TBan) : List DV := [.lst 1 (b.mode.map encI), .int .i64 b.act.kind, .int .i64 b.act.hand, .int .i64 b.act.place]
abbrev dOs (l : List TObj) : DV := .lst 2 (l.map encO)
abbrev dHs (l : List THand) : DV := .lst 4 (l.map encH)
abbrev dGs (l : List TGrip) : DV := .lst 3 (l.map encG)
abbrev dAcs (l : List TAct) : DV := .lst 3 (l.map encAc)
abbrev dBs (l : List TBan) : DV := .lst 4 (l.map encB)
abbrev cWk (w : TWork) : List CV := [.dv (dJs w.scene.robot.joints), .dv (dMs w.scene.robot.masses), .dv (dShs w.scene.shapes), .dv (dSks w.scene.skips), .dv (dOs w.objects), .dv (dVs w.places), .dv (dHs w.hands), .dv (dGs w.grips), .dv (.int .i64 w.slack)]
abbrev Wk (w : TWork) : SV := .agg (cWk w)
abbrev bWk (w : TWork) : Box := .vars Y.Workspace (cWk w)
abbrev Md (m : List Int) : SV := .agg [.dv (.lst 1 (m.map encI))]
abbrev bMd (m : List Int) : Box := .vars Y.Mode [.dv (.lst 1 (m.map encI))]
abbrev cAc (a : TAct) : List CV := [.dv (.int .i64 a.kind), .dv (.int .i64 a.hand), .dv (.int .i64 a.place)]
abbrev Ac (a : TAct) : SV := .agg (cAc a)
abbrev bAc (a : TAct) : Box := .vars Y.Action (cAc a)
abbrev Vc (v : Vec) : SV := .agg [.dv (.int .i64 v.x), .dv (.int .i64 v.y), .dv (.int .i64 v.z)]

/-- what a workspace may be, so that its lengths can be reckoned -/
def mild (w : TWork) : Prop := small w.scene ∧ w.objects.length ≤ 1000 ∧ (∀ o ∈ w.objects, o.shapes.length ≤ 17592186044416 ∧ ∀ s ∈ o.shapes, s.points.length ≤ 17592186044416) ∧ w.places.length ≤ 1000 ∧ w.hands.length ≤ 1000 ∧ w.grips.length ≤ 1000 ∧ ∀ g ∈ w.grips, g.at_.length ≤ 4611686018427387904
/-- a configuration within the limits -/
def linB (j : Joint) (x : Int) : Bool := decide (j.lo ≤ x) && decide (x ≤ j.hi)
def withinJ : List Joint → List Int → Bool
  | [], [] => true
  | j :: js, x :: xs => linB j x && withinJ js xs
  | _, _ => false
def insideB (r : Robot) (l : List Int) : Bool := decide (checkRobot r = 0) && withinJ r.joints l
def nearB (v : Vec) : Bool := inV v 2097152
def handB (w : TWork) (h : THand) : Bool := decide (0 ≤ h.link) && decide (h.link < w.scene.robot.joints.length) && nearB h.off
def knownB (w : TWork) (h p : Int) : Bool := decide (0 ≤ h) && decide (h < w.hands.length) && decide (0 ≤ p) && decide (p < w.places.length)
def gripB (w : TWork) (g : TGrip) : Bool := knownB w g.hand g.place && insideB w.scene.robot g.at_
def sizesB (w : TWork) : Bool := decide (w.objects.length ≤ 6) && decide (w.places.length ≤ 8) && decide (w.hands.length ≤ 3) && decide (w.grips.length ≤ 32) && decide (0 ≤ w.slack) && decide (w.slack ≤ 65536)
def fitB (w : TWork) : Bool := sizesB w && w.places.all nearB && w.hands.all (handB w) && w.grips.all (gripB w)
def shapeB (s : Shape) : Bool := decide (1 ≤ s.radius) && decide (s.radius ≤ 1048576) && decide (1 ≤ s.points.length) && decide (s.points.length ≤ 8) && s.points.all (inV · 4194304)
def oshapeB (s : Shape) : Bool := shapeB s && decide (s.link = 0) && s.points.all nearB
def solidB (o : TObj) : Bool := o.shapes.all oshapeB && decide (0 < o.shapes.length)
def objB (pre : List TObj) (o : TObj) : Bool := nameOk o.name && !(pre.any fun e => decide (e.name = o.name)) && solidB o
def objsB (pre : List TObj) : List TObj → Bool
  | [] => true
  | o :: l => objB pre o && objsB (pre ++ [o]) l
def countOf (l : List TObj) : Nat := (l.map fun o => o.shapes.length).sum
def workErr (w : TWork) : Int :=
  if checkScene w.scene ≠ 0 then checkScene w.scene
  else if fitB w = false then 3401
  else if objsB [] w.objects = false then 3402
  else if 24 < w.scene.shapes.length + countOf w.objects then 3401
  else 0
/-- the places of a mode are in range, and no two are the same -/
def modeB (w : TWork) (pre : List Int) : List Int → Bool
  | [] => true
  | x :: l => decide (-(w.hands.length : Int) ≤ x) && decide (x < w.places.length) && !(pre.any fun y => decide (y = x)) && modeB w (pre ++ [x]) l
def validB (w : TWork) (m : List Int) : Bool := decide (workErr w = 0) && decide (m.length = w.objects.length) && modeB w [] m

/- actions -/
def gripped (w : TWork) (h p : Int) : Bool := w.grips.any fun g => decide (g.hand = h) && decide (g.place = p)
/-- where a number stands in a list, from a number on -/
def idxI (x : Int) : List Int → Nat → Int
  | [], _ => -1
  | y :: l, k => if y = x then (k : Int) else idxI x l (k + 1)
def objAt (m : List Int) (x : Int) : Int := idxI x m 0
def canK (m : List Int) (a : TAct) : Bool :=
  (decide (a.kind = 1) && !decide (0 ≤ objAt m (-1 - a.hand)) && decide (0 ≤ objAt m a.place)) || (decide (a.kind = 2) && decide (0 ≤ objAt m (-1 - a.hand)) && !decide (0 ≤ objAt m a.place))
def canB (w : TWork) (m : List Int) (a : TAct) : Bool := knownB w a.hand a.place && gripped w a.hand a.place && canK m a
/-- what can be done: for one kind and hand, the places below c; for one kind, the hands below n -/
def aRow (w : TWork) (m : List Int) (k : Int) (h c : Nat) : List TAct := ((List.range c).map fun (p : Nat) => (⟨k, (h : Int), (p : Int)⟩ : TAct)).filter (canB w m)
def aHands (w : TWork) (m : List Int) (k : Int) (n : Nat) : List TAct := (List.range n).flatMap fun h => aRow w m k h w.places.length
def actsOf (w : TWork) (m : List Int) : List TAct := if validB w m then aHands w m 1 w.hands.length ++ aHands w m 2 w.hands.length else []
def fromOf (a : TAct) : Int := if a.kind = 1 then a.place else -1 - a.hand
def toOf (a : TAct) : Int := if a.kind = 1 then -1 - a.hand else a.place
def setAt (m : List Int) (a : TAct) : List Int := m.set (objAt m (fromOf a)).toNat (toOf a)
def applyB (w : TWork) (m : List Int) (a : TAct) : Bool := validB w m && canB w m a
def applyM (w : TWork) (m : List Int) (a : TAct) : List Int := if applyB w m a then setAt m a else []
/-- a goal is met -/
def meets : List Int → List Int → Bool
  | _, [] => true
  | x :: m, g :: l => (decide (g = -1048576) || decide (g = x)) && meets m l
  | [], _ :: _ => false
def bannedB (l : List TBan) (m : List Int) (a : TAct) : Bool := l.any fun b => decide (b.act = a) && decide (b.mode = m)
def reachedB (w : TWork) (m g : List Int) : Bool := validB w m && decide (g.length = w.objects.length) && meets m g

/- what follows at once -/
theorem objB_false {pre : List TObj} {o : TObj} {l : List TObj} (h : objB pre o = false) : objsB pre (o :: l) = false := by rw [objsB, h]; rfl
theorem objB_true {pre : List TObj} {o : TObj} {l : List TObj} (h : objB pre o = true) : objsB pre (o :: l) = objsB (pre ++ [o]) l := by rw [objsB, h]; rfl
theorem work_facts {w : TWork} (h : workErr w = 0) : checkScene w.scene = 0 ∧ fitB w = true ∧ objsB [] w.objects = true ∧ w.scene.shapes.length + countOf w.objects ≤ 24 := by
  unfold workErr at h
  split at h
  · contradiction
  split at h
  · cases h
  split at h
  · cases h
  split at h
  · cases h
  rename_i h1 h2 h3 h4
  exact ⟨Classical.byContradiction h1, by simpa using h2, by simpa using h3, by omega⟩
theorem sizes_facts {w : TWork} (h : workErr w = 0) : w.objects.length ≤ 6 ∧ w.places.length ≤ 8 ∧ w.hands.length ≤ 3 ∧ w.grips.length ≤ 32 := by
  have := (work_facts h).2.1
  simp only [fitB, sizesB, Bool.and_eq_true, decide_eq_true_eq] at this
  omega
theorem idxI_bd (x : Int) : ∀ (l : List Int) (k : Nat), idxI x l k = -1 ∧ x ∉ l ∨ ∃ i, l[i]? = some x ∧ idxI x l k = ((k + i : Nat) : Int)
  | [], k => .inl ⟨rfl, by simp⟩
  | y :: l, k => by
    rw [idxI]
    by_cases h : y = x
    · rw [if_pos h]; exact .inr ⟨0, by simp [h], rfl⟩
    · rw [if_neg h]
      rcases idxI_bd x l (k + 1) with ⟨h1, h2⟩ | ⟨i, h1, h2⟩
      · exact .inl ⟨h1, by simp [h2]; exact fun e => h e.symm⟩
      · exact .inr ⟨i + 1, by simpa using h1, by rw [h2]; congr 1; omega⟩
theorem objAt_bd (m : List Int) (x : Int) : objAt m x = -1 ∧ x ∉ m ∨ ∃ i : Nat, m[i]? = some x ∧ objAt m x = i := by
  rcases idxI_bd x m 0 with h | ⟨i, h1, h2⟩
  · exact .inl h
  · exact .inr ⟨i, h1, by rw [objAt, h2, Nat.zero_add]⟩
theorem objAt_has {m : List Int} {x : Int} : 0 ≤ objAt m x ↔ x ∈ m := by
  rcases objAt_bd m x with ⟨h1, h2⟩ | ⟨i, h1, h2⟩
  · rw [h1]; simp [h2]
  · rw [h2]; exact ⟨fun _ => List.mem_of_getElem? h1, fun _ => by omega⟩
theorem modeB_facts {w : TWork} : ∀ {l pre : List Int}, modeB w pre l = true → (∀ x ∈ l, -(w.hands.length : Int) ≤ x ∧ x < w.places.length ∧ x ∉ pre) ∧ l.Nodup
  | [], _, _ => ⟨fun _ h => (by cases h), List.nodup_nil⟩
  | x :: l, pre, h => by
    rw [modeB] at h
    simp only [Bool.and_eq_true, decide_eq_true_eq, Bool.not_eq_true', List.any_eq_false] at h
    obtain ⟨⟨⟨h1, h2⟩, h3⟩, h4⟩ := h
    obtain ⟨i1, i2⟩ := modeB_facts h4
    refine ⟨fun y hy => ?_, ?_⟩
    · rcases List.mem_cons.1 hy with rfl | hy
      · exact ⟨h1, h2, fun hp => h3 _ hp rfl⟩
      · obtain ⟨j1, j2, j3⟩ := i1 y hy
        exact ⟨j1, j2, fun hp => j3 (by simp [hp])⟩
    · rw [List.nodup_cons]
      exact ⟨fun hx => (i1 x hx).2.2 (by simp), i2⟩
theorem modeB_of {w : TWork} : ∀ {l pre : List Int}, (∀ x ∈ l, -(w.hands.length : Int) ≤ x ∧ x < w.places.length ∧ x ∉ pre) → l.Nodup → modeB w pre l = true
  | [], _, _, _ => rfl
  | x :: l, pre, h, hn => by
    rw [List.nodup_cons] at hn
    obtain ⟨h1, h2, h3⟩ := h x (by simp)
    have h4 : pre.any (fun y => decide (y = x)) = false := by
      rw [List.any_eq_false]
      intro y hy e
      exact h3 (of_decide_eq_true e ▸ hy)
    have ih : modeB w (pre ++ [x]) l = true := modeB_of (fun y hy => by
      obtain ⟨j1, j2, j3⟩ := h y (by simp [hy])
      refine ⟨j1, j2, fun hp => ?_⟩
      rcases List.mem_append.1 hp with hp | hp
      · exact j3 hp
      · simp only [List.mem_singleton] at hp
        subst hp
        exact hn.1 hy) hn.2
    rw [modeB, h4, ih]
    simp [h1, h2]
theorem canK_kind {m : List Int} {a : TAct} (h : canK m a = true) : a.kind = 1 ∧ objAt m (-1 - a.hand) < 0 ∧ 0 ≤ objAt m a.place ∨ a.kind = 2 ∧ 0 ≤ objAt m (-1 - a.hand) ∧ objAt m a.place < 0 := by
  simp only [canK, Bool.or_eq_true, Bool.and_eq_true, decide_eq_true_eq, Bool.not_eq_true', decide_eq_false_iff_not] at h
  omega
theorem known_facts {w : TWork} {h p : Int} (k : knownB w h p = true) : 0 ≤ h ∧ h < w.hands.length ∧ 0 ≤ p ∧ p < w.places.length := by
  simp only [knownB, Bool.and_eq_true, decide_eq_true_eq] at k
  omega
theorem can_facts {w : TWork} {m : List Int} {a : TAct} (h : canB w m a = true) : (0 ≤ a.hand ∧ a.hand < w.hands.length ∧ 0 ≤ a.place ∧ a.place < w.places.length) ∧ gripped w a.hand a.place = true ∧ canK m a = true := by
  simp only [canB, Bool.and_eq_true] at h
  exact ⟨known_facts h.1.1, h.1.2, h.2⟩
theorem mem_aRow {w : TWork} {m : List Int} {k : Int} {h c : Nat} {a : TAct} : a ∈ aRow w m k h c ↔ canB w m a = true ∧ a.kind = k ∧ a.hand = h ∧ 0 ≤ a.place ∧ a.place < c := by
  rw [aRow, List.mem_filter, List.mem_map]
  constructor
  · rintro ⟨⟨p, hp, rfl⟩, hc⟩
    have := List.mem_range.1 hp
    exact ⟨hc, rfl, rfl, by simp, by simp; omega⟩
  · rintro ⟨hc, h1, h2, h3, h4⟩
    refine ⟨⟨a.place.toNat, List.mem_range.2 (by omega), ?_⟩, hc⟩
    cases a
    simp only at h1 h2 h3 h4 ⊢
    subst h1 h2
    congr 1
    omega
theorem mem_aHands {w : TWork} {m : List Int} {k : Int} {a : TAct} : a ∈ aHands w m k w.hands.length ↔ canB w m a = true ∧ a.kind = k := by
  rw [aHands, List.mem_flatMap]
  constructor
  · rintro ⟨h, _, ha⟩
    have := mem_aRow.1 ha
    exact ⟨this.1, this.2.1⟩
  · rintro ⟨hc, hk⟩
    have := (can_facts hc).1
    exact ⟨a.hand.toNat, List.mem_range.2 (by omega), mem_aRow.2 ⟨hc, hk, by omega, by omega, by omega⟩⟩
theorem mem_acts {w : TWork} {m : List Int} {a : TAct} : a ∈ actsOf w m ↔ applyB w m a = true := by
  rw [actsOf, applyB]
  cases hv : validB w m with
  | false => simp
  | true =>
    rw [if_pos rfl, Bool.true_and, List.mem_append, mem_aHands, mem_aHands]
    constructor
    · rintro (h | h) <;> exact h.1
    · intro h
      rcases canK_kind (can_facts h).2.2 with h1 | h1
      · exact .inl ⟨h, h1.1⟩
      · exact .inr ⟨h, h1.1⟩
structure ValidF (w : TWork) (m : List Int) : Prop where
  work : workErr w = 0
  len : m.length = w.objects.length
  rng : ∀ x ∈ m, -(w.hands.length : Int) ≤ x ∧ x < w.places.length
  nd : m.Nodup
theorem valid_iff {w : TWork} {m : List Int} : validB w m = true ↔ ValidF w m := by
  constructor
  · intro h
    simp only [validB, Bool.and_eq_true, decide_eq_true_eq] at h
    obtain ⟨⟨h1, h2⟩, h3⟩ := h
    obtain ⟨i1, i2⟩ := modeB_facts h3
    exact ⟨h1, h2, fun x hx => ⟨(i1 x hx).1, (i1 x hx).2.1⟩, i2⟩
  · rintro ⟨h1, h2, h3, h4⟩
    simp only [validB, Bool.and_eq_true, decide_eq_true_eq]
    exact ⟨⟨h1, h2⟩, modeB_of (fun x hx => ⟨(h3 x hx).1, (h3 x hx).2, by simp⟩) h4⟩
theorem ValidF.le6 {w : TWork} {m : List Int} (h : ValidF w m) : m.length ≤ 6 := by rw [h.len]; exact (sizes_facts h.work).1
theorem ValidF.small {w : TWork} {m : List Int} (h : ValidF w m) {x : Int} (hx : x ∈ m) : -3 ≤ x ∧ x < 8 := by
  have := h.rng x hx
  have := sizes_facts h.work
  omega
end Go.Proofs.Ytopcjmipldkijaa

/- Bytes and runes of texts. -/
namespace Go.Proofs.Ytopcjmipldkijaa
open Eng
set_option maxRecDepth 10000
attribute [local irreducible] FnOk loopW idxF retX arrF

abbrev Ru (c : Int) : SV := .one (.dv (.int .i32 c))
abbrev By (c : Int) : SV := .one (.dv (.int .u8 c))
theorem byteAt_get {s : ByteArray} {i : Nat} (h : i < s.size) : byteAt s i = ((s[i]'h).toNat : Int) := by
  unfold byteAt; rw [getElem?_pos s i h]; rfl
theorem byteAt_bd (s : ByteArray) (i : Nat) : 0 ≤ byteAt s i ∧ byteAt s i < 256 := by
  unfold byteAt
  have := (s[i]?.getD 0).toNat_lt
  omega
end Go.Proofs.Ytopcjmipldkijaa

/- Names. No program in sight. -/
namespace Go.Proofs.Ytopcjmipldkijaa
open Eng
set_option maxRecDepth 10000

theorem nameB_low {i : Nat} {c : Int} (h : nameB i c = true) : c < 128 := by
  simp only [nameB, letterB, digitB, Bool.or_eq_true, Bool.and_eq_true, decide_eq_true_eq] at h
  omega
theorem dec_name {s : ByteArray} {i : Nat} (h : i < s.size) : nameB i (Utf8.decode s i).1 = nameB i (byteAt s i) ∧ (nameB i (byteAt s i) = true → (Utf8.decode s i).2 = 1) := by
  have hb := byteAt_get h
  by_cases ha : (s[i]'h).toNat < 128
  · rw [decode_ascii s i h ha, hb]; exact ⟨rfl, fun _ => rfl⟩
  · have := (decode_high s i h (by omega)).1
    have h1 : nameB i (byteAt s i) = false := by
      rcases hn : nameB i (byteAt s i) with _ | _
      · rfl
      · have := nameB_low hn; omega
    have h2 : nameB i ((Utf8.decode s i).1 : Int) = false := by
      rcases hn : nameB i ((Utf8.decode s i).1 : Int) with _ | _
      · rfl
      · have := nameB_low hn; omega
    rw [h1, h2]; exact ⟨rfl, fun h => by cases h⟩
theorem names_take {s : ByteArray} {k : Nat} (h : ((List.range k).all fun i => nameB i (byteAt s i)) = true) (hk : nameB k (byteAt s k) = true) : ((List.range (k + 1)).all fun i => nameB i (byteAt s i)) = true := by
  rw [List.range_succ, List.all_append, h]; simp [hk]
theorem name_not {s : ByteArray} {k : Nat} (hk : k < s.size) (h : nameB k (byteAt s k) = false) : nameOk s = false := by
  have : ((List.range s.size).all fun i => nameB i (byteAt s i)) = false := by
    rw [List.all_eq_false]; exact ⟨k, by simpa using hk, by simp [h]⟩
  simp [nameOk, this]
end Go.Proofs.Ytopcjmipldkijaa

/- The reference's Name. -/
namespace Go.Proofs.Ytopcjmipldkijaa
open Eng
set_option maxRecDepth 10000
attribute [local irreducible] FnOk loopW idxF retX arrF

theorem ref_Name (s : ByteArray) : FnOk Try.prog F.ref6_Name [Tx s] [] 0 (Bo (nameOk s)) [] 0 := by
  refine fnOk tab mix G.ref6_Name rfl rfl (by kernel_rfl) rfl rfl ?_
  (conv => whnf)
  refine ask_m (fun h => ?_) (fun h => ?_)
  · (conv => whnf)
    refine ret0 ?_
    exact ret_b (by have : ¬ 1 ≤ s.size := by have := of_decide_eq_true h; omega
                    simp [nameOk, this]) rfl
  have h1 : 1 ≤ s.size := by have := of_decide_eq_false h; omega
  (conv => whnf)
  refine ask_m (fun h => ?_) (fun h => ?_)
  · (conv => whnf)
    refine ret0 ?_
    exact ret_b (by have : ¬ s.size ≤ 16 := by have := of_decide_eq_true h; omega
                    simp [nameOk, this]) rfl
  have h2 : s.size ≤ 16 := by have := of_decide_eq_false h; omega
  (conv => whnf)
  refine ask_m (fun h => ?_) (fun h => ?_)
  · (conv => whnf)
    refine ret0 ?_
    exact ret_b (by have : s = worldT := of_decide_eq_true h
                    subst this; rfl) rfl
  have h3 : decide (s = worldT) = false := h
  (conv => whnf)
  refine loop_intro (fun k : Nat => ⟨[(0, Tx s), (3, I k)], [], 0⟩) (fun k => k ≤ s.size ∧ ((List.range k).all fun i => nameB i (byteAt s i)) = true) (fun k => s.size - k) [] 0 [] ⟨Nat.zero_le _, rfl⟩ ⟨⟨rfl, rfl, trivial⟩, trivial⟩ ?_
  rintro k ⟨hk, hall⟩
  have hkk : IntKind.i64.wrap ((k : Int) + 1) = ((k + 1 : Nat) : Int) := by rw [w64] <;> omega
  (conv => whnf)
  refine ask_m (fun h => ?_) (fun h => ?_)
  · have hlt : k < s.size := by have := of_decide_eq_true h; omega
    have bad : nameB k (byteAt s k) = false → nameOk s = false := name_not hlt
    have good : nameB k (byteAt s k) = true → ((List.range (k + 1)).all fun i => nameB i (byteAt s i)) = true := fun h => names_take hall h
    have hN : nameB k (byteAt s k) = (letterB (byteAt s k) || (decide (k ≠ 0) && (digitB (byteAt s k) || decide (byteAt s k = 95)))) := rfl
    have ix : ((0 : Int) ≤ k ∧ (k : Int) < s.size) := ⟨by omega, by omega⟩
    have e1 : byteAt s (k : Int).toNat = byteAt s k := rfl
    clear h
    repeat' ((conv => whnf); first | refine ask_m (fun h => ?_) (fun h => ?_) | refine ⟨ix, ?_⟩ | refine ret0 ?_)
    all_goals (try rw [e1] at *)
    all_goals generalize byteAt s k = c at *
    all_goals first
      | (refine ret_b (bad ?_).symm rfl; clear bad good; simp_all [letterB, digitB]; done)
      | (refine ret_b (bad ?_).symm rfl; clear bad good; simp_all [letterB, digitB]; omega)
      | (refine ⟨k + 1, [], ⟨hlt, good ?_⟩, by omega, ⟨⟨rfl, eqI hkk, trivial⟩, trivial⟩⟩; clear bad good; simp_all [letterB, digitB]; done)
      | (refine ⟨k + 1, [], ⟨hlt, good ?_⟩, by omega, ⟨⟨rfl, eqI hkk, trivial⟩, trivial⟩⟩; clear bad good; simp_all [letterB, digitB]; omega)
  · have hk : k = s.size := by have := of_decide_eq_false h; omega
    subst hk
    (conv => whnf)
    refine ret0 ?_
    exact ret_b (by simp [nameOk, h1, h2, h3, hall]) rfl
end Go.Proofs.Ytopcjmipldkijaa

/- Finding joints. No program in sight. -/
namespace Go.Proofs.Ytopcjmipldkijaa
open Eng
set_option maxRecDepth 10000

theorem find_at : ∀ {js : List Joint} {i k : Nat} {j : Joint}, js[i]? = some j → (∀ (i' : Nat) (j' : Joint), i' < i → js[i']? = some j' → j'.name ≠ j.name) → find js j.name k = ((k + i : Nat) : Int)
  | [], _, _, _, h, _ => by simp at h
  | x :: js, 0, k, j, h, _ => by
    simp at h; subst h
    rw [find, if_pos rfl]; rfl
  | x :: js, i + 1, k, j, h, hn => by
    have h1 := hn 0 x (by omega) rfl
    rw [find, if_neg h1, find_at (i := i) (k := k + 1) (by simpa using h) fun i' j' hi hj => hn (i' + 1) j' (by omega) (by simpa using hj)]
    omega
theorem jointsErr_zero {js : List Joint} : ∀ {l : List Joint} {i : Nat}, (∀ (k : Nat) (j : Joint), l[k]? = some j → jointErr js (i + k) j = 0) → jointsErr js i l = 0
  | [], _, _ => rfl
  | x :: l, i, h => by
    have h0 : jointErr js i x = 0 := h 0 x rfl
    rw [jointsErr, if_pos h0]
    exact jointsErr_zero fun k j hj => by
      have := h (k + 1) j (by simpa using hj)
      rw [← this]; congr 1; omega
theorem reach_cases (k : Int) : reach k = 0 ∨ reach k = 524288 ∨ reach k = 4194304 := by
  unfold reach; repeat' split
  all_goals simp
def bodyOk (i : Nat) (j : Joint) : Prop := (0 ≤ j.kind ∧ j.kind ≤ 6) ∧ (-1 ≤ j.parent ∧ j.parent < (i : Int)) ∧ inV j.off 4194304 = true ∧ (j.lo ≤ j.hi ∧ - reach j.kind ≤ j.lo ∧ j.hi ≤ reach j.kind) ∧ (from1 j.weight 1024 && from1 j.speed 1048576 && from1 j.accel 1048576 && from1 j.torque 1099511627776) = true
theorem jointErr_zero {js : List Joint} {i : Nat} {j : Joint} (h1 : nameOk j.name = true) (h2 : find js j.name 0 = i) (h : bodyOk i j) : jointErr js i j = 0 := by
  obtain ⟨⟨a1, a2⟩, ⟨b1, b2⟩, c, ⟨d1, d2, d3⟩, e⟩ := h
  unfold jointErr
  rw [if_neg (by rw [h1, h2]; simp), if_neg (by omega), if_neg (by omega), if_neg (by rw [c]; simp), if_neg (by omega), if_neg (by rw [e]; simp)]
theorem jointErr_inv {js : List Joint} {i : Nat} {j : Joint} (h : jointErr js i j = 0) : nameOk j.name = true ∧ find js j.name 0 = i ∧ bodyOk i j := by
  unfold jointErr at h
  split at h
  · contradiction
  rename_i h1
  split at h
  · contradiction
  split at h
  · contradiction
  split at h
  · contradiction
  split at h
  · contradiction
  split at h
  · contradiction
  rename_i h4 h5 h6
  refine ⟨?_, ?_, ⟨by omega, by omega⟩, ⟨by omega, by omega⟩, by simpa using h4, ⟨by omega, by omega, by omega⟩, ?_⟩
  · cases h7 : nameOk j.name
    · exact absurd (.inl h7) h1
    · rfl
  · exact Decidable.byContradiction fun h7 => h1 (.inr h7)
  · exact (Bool.eq_false_or_eq_true _).resolve_right h6
end Go.Proofs.Ytopcjmipldkijaa

/- The reference's checks: joints, robots. -/
namespace Go.Proofs.Ytopcjmipldkijaa
open Eng
set_option maxRecDepth 10000
attribute [local irreducible] FnOk loopW idxF retX arrF

theorem ref_isLink (r : Robot) (k : Int) : FnOk Try.prog F.ref6_isLink [Ro r, I k] [] 0 (Bo (linkOk r.joints.length k)) [] 0 := by
  refine fnOk tab mix G.ref6_isLink rfl rfl (by kernel_rfl) rfl rfl ?_
  (conv => whnf)
  repeat' ((conv => whnf); first | refine ask_m (fun h => ?_) (fun h => ?_) | refine ret0 ?_)
  all_goals exact ret_b (by first | (simp_all [linkOk]; done) | (simp_all [linkOk]; omega)) rfl
def betw (x a b : Int) : Bool := decide (a ≤ x) && decide (x ≤ b)
theorem ref_between (x a b : Int) : FnOk Try.prog F.ref6_between [I x, I a, I b] [] 0 (Bo (betw x a b)) [] 0 := by
  refine fnOk tab mix G.ref6_between rfl rfl (by kernel_rfl) rfl rfl ?_
  (conv => whnf)
  repeat' ((conv => whnf); first | refine ask_m (fun h => ?_) (fun h => ?_) | refine ret0 ?_)
  all_goals exact ret_b (by first | (simp_all [betw]; done) | (simp_all [betw]; omega)) rfl
def inX (m x : Int) : Bool := decide (-m ≤ x) && decide (x ≤ m)
theorem ref_Near (v : Vec) (m : Int) (hm : 0 ≤ m) (hm2 : m ≤ 4611686018427387904) : FnOk Try.prog F.ref6_Near [Ve v, I m] [] 0 (Bo (inV v m)) [] 0 := by
  refine fnOk tab mix G.ref6_Near rfl rfl (by kernel_rfl) rfl rfl ?_
  (conv => whnf)
  have wn : IntKind.i64.wrap (0 - m) = -m := by rw [w64] <;> omega
  have e : inV v m = (inX m v.x && inX m v.y && inX m v.z) := rfl
  refine loop_intro (fun k : Nat => ⟨[(1, I m), (2, .one (.vptr 0 0)), (5, I k)], [(0, .vars Y.Vec [.dv (.int .i64 v.x), .dv (.int .i64 v.y), .dv (.int .i64 v.z)])], 1⟩) (fun k => k ≤ 3 ∧ (1 ≤ k → inX m v.x = true) ∧ (2 ≤ k → inX m v.y = true) ∧ (3 ≤ k → inX m v.z = true)) (fun k => 3 - k) [] 0 [] ⟨by decide, by omega, by omega, by omega⟩ ⟨⟨rfl, rfl, rfl, trivial⟩, ⟨rfl, trivial⟩⟩ ?_
  rintro k ⟨hk, k1, k2, k3⟩
  rcases (show k = 0 ∨ k = 1 ∨ k = 2 ∨ k = 3 by omega) with rfl | rfl | rfl | rfl
  · (conv => whnf)
    refine ⟨by decide, ?_⟩
    (conv => whnf)
    rw [wn]
    refine ask_m (fun h => ?_) (fun h => ?_)
    · have h := of_decide_eq_true h
      (conv => whnf)
      refine ret0 ?_
      exact ret_b (by rw [e]; simp [inX]; omega) rfl
    · have h := of_decide_eq_false h
      (conv => whnf)
      refine ⟨by decide, ?_⟩
      (conv => whnf)
      refine ask_m (fun h2 => ?_) (fun h2 => ?_)
      · have h2 := of_decide_eq_true h2
        (conv => whnf)
        refine ret0 ?_
        exact ret_b (by rw [e]; simp [inX]; omega) rfl
      · have h2 := of_decide_eq_false h2
        (conv => whnf)
        exact ⟨1, [], ⟨by decide, fun _ => by simp [inX]; omega, by omega, by omega⟩, by omega, ⟨⟨rfl, rfl, rfl, trivial⟩, ⟨rfl, trivial⟩⟩⟩
  · (conv => whnf)
    refine ⟨by decide, ?_⟩
    (conv => whnf)
    rw [wn]
    refine ask_m (fun h => ?_) (fun h => ?_)
    · have h := of_decide_eq_true h
      (conv => whnf)
      refine ret0 ?_
      exact ret_b (by rw [e]; simp [inX]; omega) rfl
    · have h := of_decide_eq_false h
      (conv => whnf)
      refine ⟨by decide, ?_⟩
      (conv => whnf)
      refine ask_m (fun h2 => ?_) (fun h2 => ?_)
      · have h2 := of_decide_eq_true h2
        (conv => whnf)
        refine ret0 ?_
        exact ret_b (by rw [e]; simp [inX]; omega) rfl
      · have h2 := of_decide_eq_false h2
        (conv => whnf)
        exact ⟨2, [], ⟨by decide, fun _ => k1 (by decide), fun _ => by simp [inX]; omega, by omega⟩, by omega, ⟨⟨rfl, rfl, rfl, trivial⟩, ⟨rfl, trivial⟩⟩⟩
  · (conv => whnf)
    refine ⟨by decide, ?_⟩
    (conv => whnf)
    rw [wn]
    refine ask_m (fun h => ?_) (fun h => ?_)
    · have h := of_decide_eq_true h
      (conv => whnf)
      refine ret0 ?_
      exact ret_b (by rw [e]; simp [inX]; omega) rfl
    · have h := of_decide_eq_false h
      (conv => whnf)
      refine ⟨by decide, ?_⟩
      (conv => whnf)
      refine ask_m (fun h2 => ?_) (fun h2 => ?_)
      · have h2 := of_decide_eq_true h2
        (conv => whnf)
        refine ret0 ?_
        exact ret_b (by rw [e]; simp [inX]; omega) rfl
      · have h2 := of_decide_eq_false h2
        (conv => whnf)
        exact ⟨3, [], ⟨by decide, fun _ => k1 (by decide), fun _ => k2 (by decide), fun _ => by simp [inX]; omega⟩, by omega, ⟨⟨rfl, rfl, rfl, trivial⟩, ⟨rfl, trivial⟩⟩⟩
  · (conv => whnf)
    refine ret0 ?_
    exact ret_b (by rw [e, k1 (by decide), k2 (by decide), k3 (by decide)]; rfl) rfl
def reachR (k : Int) : Int := if k = 0 then 0 else if k = 1 ∨ k = 2 ∨ k = 3 then 524288 else 4194304
theorem reachR_eq {k : Int} (h0 : 0 ≤ k) (h6 : k ≤ 6) : reachR k = reach k := by
  rcases (show k = 0 ∨ k = 1 ∨ k = 2 ∨ k = 3 ∨ k = 4 ∨ k = 5 ∨ k = 6 by omega) with rfl | rfl | rfl | rfl | rfl | rfl | rfl <;> decide
theorem ref_reach (k : Int) : FnOk Try.prog F.ref6_reach [I k] [] 0 (I (reachR k)) [] 0 := by
  refine fnOk tab mix G.ref6_reach rfl rfl (by kernel_rfl) rfl rfl ?_
  (conv => whnf)
  repeat' ((conv => whnf); first | refine ask_m (fun h => ?_) (fun h => ?_) | refine ret0 ?_)
  all_goals exact ret_i (by first | (simp_all [reachR]; done) | (simp_all [reachR]; omega)) rfl
theorem find_le : ∀ {js : List Joint} {k b : Nat} {x : Joint}, js[k]? = some x → (b : Int) ≤ find js x.name b ∧ find js x.name b ≤ ((b + k : Nat) : Int)
  | [], _, _, _, h => by simp at h
  | j :: js, 0, b, x, h => by
    simp at h; subst h
    rw [find, if_pos rfl]; omega
  | j :: js, k + 1, b, x, h => by
    rw [find]; split
    · omega
    · have := find_le (js := js) (k := k) (b := b + 1) (by simpa using h)
      omega
theorem ref_checkJoint (js : List Joint) (i : Nat) (j : Joint) (hj : js[i]? = some j) (hl : js.length ≤ 4611686018427387904) : FnOk Try.prog F.ref6_checkJoint [.one (.dv (dJs js)), I i] [] 0 (I (jointErr js i j)) [] 0 := by
  refine fnOk tab mix G.ref6_checkJoint rfl rfl (by kernel_rfl) rfl rfl ?_
  (conv => whnf)
  have hil : i < js.length := (List.getElem?_eq_some_iff.1 hj).1
  refine idx_and (by omega) (by simpa using hj) ?_
  (conv => whnf)
  refine call_i (ref_Name j.name) ?_
  (conv => whnf)
  refine ask_m (fun hn => ?_) (fun hn => ?_)
  · have hn : nameOk j.name = false := by simpa using hn
    (conv => whnf)
    refine ret0 ?_
    exact ret_i (by rw [jointErr, if_pos (.inl hn)]) rfl
  have hn : nameOk j.name = true := by simpa using hn
  (conv => whnf)
  refine loop_intro (fun k : Nat => ⟨[(0, .one (.dv (dJs js))), (1, I i), (5, .one (.vptr 0 0)), (6, I k)], [(0, .vars Y.Joint [.dv (.str j.name), .dv (.int .i64 j.kind), .dv (.int .i64 j.parent), .dv (.int .i64 j.off.x), .dv (.int .i64 j.off.y), .dv (.int .i64 j.off.z), .dv (.int .i64 j.lo), .dv (.int .i64 j.hi), .dv (.int .i64 j.weight), .dv (.int .i64 j.speed), .dv (.int .i64 j.accel), .dv (.int .i64 j.torque)])], 1⟩)
    (fun k => k ≤ i ∧ ∀ (a : Nat) (x : Joint), a < k → js[a]? = some x → x.name ≠ j.name) (fun k => i - k) [] 0 [] ⟨Nat.zero_le _, fun a x h => by omega⟩ ⟨⟨rfl, rfl, rfl, rfl, trivial⟩, ⟨rfl, trivial⟩⟩ ?_
  rintro k ⟨hk, hne⟩
  (conv => whnf)
  refine ask_m (fun h => ?_) (fun h => ?_)
  · have hlt : k < i := by have := of_decide_eq_true h; omega
    obtain ⟨x, hx⟩ : ∃ x, js[k]? = some x := ⟨_, List.getElem?_eq_getElem (by omega)⟩
    have hkk : IntKind.i64.wrap ((k : Int) + 1) = ((k + 1 : Nat) : Int) := by rw [w64] <;> omega
    (conv => whnf)
    refine idx_and (by omega) (by simpa using hx) ?_
    (conv => whnf)
    refine ask_m (fun he => ?_) (fun he => ?_)
    · have he : x.name = j.name := of_decide_eq_true he
      have hf := find_le (b := 0) hx
      rw [he] at hf
      (conv => whnf)
      refine ret0 ?_
      exact ret_i (by rw [jointErr, if_pos (.inr (by omega))]) rfl
    · have he : ¬ x.name = j.name := of_decide_eq_false he
      (conv => whnf)
      refine ⟨k + 1, [], ⟨hlt, fun a y ha hy => ?_⟩, by omega, ⟨⟨rfl, rfl, rfl, eqI hkk, trivial⟩, ⟨rfl, trivial⟩⟩⟩
      rcases Nat.lt_or_ge a k with h' | h'
      · exact hne a y h' hy
      · obtain rfl : a = k := by omega
        rw [hx] at hy; injection hy with hy; subst hy; exact he
  · have hki : k = i := by have := of_decide_eq_false h; omega
    subst hki
    have hf := find_at (k := 0) hj fun a x ha hx => hne a x ha hx
    have hE : jointErr js k j = if j.kind < 0 ∨ 6 < j.kind then 803
      else if j.parent < -1 ∨ (k : Int) ≤ j.parent then 804
      else if inV j.off 4194304 = false then 805
      else if j.hi < j.lo ∨ j.lo < - reach j.kind ∨ reach j.kind < j.hi then 806
      else if (from1 j.weight 1024 && from1 j.speed 1048576 && from1 j.accel 1048576 && from1 j.torque 1099511627776) = false then 807
      else 0 := by rw [jointErr, if_neg (by rw [hn, hf]; simp)]
    rw [hE]
    have hrr : ¬ (j.kind < 0 ∨ 6 < j.kind) → reachR j.kind = reach j.kind := fun h => reachR_eq (by omega) (by omega)
    have hrc := reach_cases j.kind
    have wr : IntKind.i64.wrap (0 - reach j.kind) = - reach j.kind := by rw [w64] <;> omega
    have fb : ∀ x m, betw x 1 m = from1 x m := fun _ _ => rfl
    clear h hE hne
    (conv => whnf)
    refine ask_m (fun h1 => ?_) (fun h1 => ?_)
    · have h1 := of_decide_eq_true h1
      rw [if_pos (.inl h1)]
      (conv => whnf)
      refine ret0 ?_
      exact ret_i rfl rfl
    have h1 := of_decide_eq_false h1
    (conv => whnf)
    refine ask_m (fun h2 => ?_) (fun h2 => ?_)
    · have h2 := of_decide_eq_true h2
      rw [if_pos (.inr h2)]
      (conv => whnf)
      refine ret0 ?_
      exact ret_i rfl rfl
    have h2 := of_decide_eq_false h2
    have h12 : ¬ (j.kind < 0 ∨ 6 < j.kind) := by omega
    rw [if_neg h12]
    (conv => whnf)
    refine ask_m (fun h3 => ?_) (fun h3 => ?_)
    · have h3 := of_decide_eq_true h3
      rw [if_pos (.inl h3)]
      (conv => whnf)
      refine ret0 ?_
      exact ret_i rfl rfl
    have h3 := of_decide_eq_false h3
    (conv => whnf)
    refine ask_m (fun h4 => ?_) (fun h4 => ?_)
    · have h4 := of_decide_eq_true h4
      rw [if_pos (.inr h4)]
      (conv => whnf)
      refine ret0 ?_
      exact ret_i rfl rfl
    have h4 := of_decide_eq_false h4
    rw [if_neg (by omega)]
    (conv => whnf)
    refine call_i (ref_Near j.off 4194304 (by decide) (by decide)) ?_
    (conv => whnf)
    refine ask_m (fun h5 => ?_) (fun h5 => ?_)
    · have h5 : inV j.off 4194304 = false := by simpa using h5
      rw [if_pos h5]
      (conv => whnf)
      refine ret0 ?_
      exact ret_i rfl rfl
    have h5 : inV j.off 4194304 = true := by simpa using h5
    rw [if_neg (by rw [h5]; simp)]
    (conv => whnf)
    refine call_i (ref_reach j.kind) ?_
    (conv => whnf)
    rw [hrr h12]
    refine ask_m (fun h6 => ?_) (fun h6 => ?_)
    · have h6 := of_decide_eq_true h6
      rw [if_pos (.inl h6)]
      (conv => whnf)
      refine ret0 ?_
      exact ret_i rfl rfl
    have h6 := of_decide_eq_false h6
    (conv => whnf)
    rw [wr]
    refine ask_m (fun h7 => ?_) (fun h7 => ?_)
    · have h7 := of_decide_eq_true h7
      rw [if_pos (.inr (.inl h7))]
      (conv => whnf)
      refine ret0 ?_
      exact ret_i rfl rfl
    have h7 := of_decide_eq_false h7
    (conv => whnf)
    refine ask_m (fun h8 => ?_) (fun h8 => ?_)
    · have h8 := of_decide_eq_true h8
      rw [if_pos (.inr (.inr h8))]
      (conv => whnf)
      refine ret0 ?_
      exact ret_i rfl rfl
    have h8 := of_decide_eq_false h8
    rw [if_neg (by omega)]
    (conv => whnf)
    refine call_i (ref_between j.weight 1 1024) ?_
    (conv => whnf)
    rw [fb]
    refine ask_m (fun h9 => ?_) (fun h9 => ?_)
    · have h9 : from1 j.weight 1024 = false := by simpa using h9
      rw [if_pos (by rw [h9]; simp)]
      (conv => whnf)
      refine ret0 ?_
      exact ret_i rfl rfl
    have h9 : from1 j.weight 1024 = true := by simpa using h9
    (conv => whnf)
    refine call_i (ref_between j.speed 1 1048576) ?_
    (conv => whnf)
    rw [fb]
    refine ask_m (fun h10 => ?_) (fun h10 => ?_)
    · have h10 : from1 j.speed 1048576 = false := by simpa using h10
      rw [if_pos (by rw [h10]; simp)]
      (conv => whnf)
      refine ret0 ?_
      exact ret_i rfl rfl
    have h10 : from1 j.speed 1048576 = true := by simpa using h10
    (conv => whnf)
    refine call_i (ref_between j.accel 1 1048576) ?_
    (conv => whnf)
    rw [fb]
    refine ask_m (fun h11 => ?_) (fun h11 => ?_)
    · have h11 : from1 j.accel 1048576 = false := by simpa using h11
      rw [if_pos (by rw [h11]; simp)]
      (conv => whnf)
      refine ret0 ?_
      exact ret_i rfl rfl
    have h11 : from1 j.accel 1048576 = true := by simpa using h11
    (conv => whnf)
    refine call_i (ref_between j.torque 1 1099511627776) ?_
    (conv => whnf)
    rw [fb]
    refine ask_m (fun h13 => ?_) (fun h13 => ?_)
    · have h13 : from1 j.torque 1099511627776 = false := by simpa using h13
      rw [if_pos (by rw [h13]; simp)]
      (conv => whnf)
      refine ret0 ?_
      exact ret_i rfl rfl
    have h13 : from1 j.torque 1099511627776 = true := by simpa using h13
    rw [h9, h10, h11, h13, if_neg (by simp)]
    (conv => whnf)
    refine ret0 ?_
    exact ret_i rfl rfl
end Go.Proofs.Ytopcjmipldkijaa

/- The reference's checks: robots, scenes. -/
namespace Go.Proofs.Ytopcjmipldkijaa
open Eng
set_option maxRecDepth 10000
attribute [local irreducible] FnOk loopW idxF retX arrF

theorem ref_CheckRobot (r : Robot) (hj : r.joints.length ≤ 4611686018427387904) (hm : r.masses.length ≤ 4611686018427387904) : FnOk Try.prog F.ref6_CheckRobot [Ro r] [] 0 (I (checkRobot r)) [] 0 := by
  refine fnOk tab mix G.ref6_CheckRobot rfl rfl (by kernel_rfl) rfl rfl ?_
  (conv => whnf)
  refine ask_m (fun h => ?_) (fun h => ?_)
  · have h : r.joints.length = 0 := by have := of_decide_eq_true h; simp only [List.length_map] at this; omega
    (conv => whnf)
    refine ret0 ?_
    exact ret_i (by unfold checkRobot; rw [if_pos (.inl h)]) rfl
  have h1 : ¬ r.joints.length = 0 := by have := of_decide_eq_false h; simp only [List.length_map] at this; omega
  (conv => whnf)
  refine ask_m (fun h => ?_) (fun h => ?_)
  · have h : 10 < r.joints.length := by have := of_decide_eq_true h; simp only [List.length_map] at this; omega
    (conv => whnf)
    refine ret0 ?_
    exact ret_i (by unfold checkRobot; rw [if_pos (.inr h)]) rfl
  have h2 : ¬ 10 < r.joints.length := by have := of_decide_eq_false h; simp only [List.length_map] at this; omega
  have e : checkRobot r = if jointsErr r.joints 0 r.joints ≠ 0 then jointsErr r.joints 0 r.joints
    else if 32 < r.masses.length ∨ r.masses.all (massOk r.joints.length) = false then 808 else 0 := by unfold checkRobot; rw [if_neg (by omega)]
  rw [e]
  (conv => whnf)
  refine loop_intro (fun k : Nat => ⟨[(1, .one (.vptr 0 0)), (3, I k)], [(0, bRo r)], 1⟩) (fun k => k ≤ r.joints.length ∧ jointsErr r.joints 0 r.joints = jointsErr r.joints k (r.joints.drop k)) (fun k => r.joints.length - k) [] 0 [] ⟨Nat.zero_le _, rfl⟩ ⟨⟨rfl, rfl, trivial⟩, ⟨rfl, trivial⟩⟩ ?_
  rintro k ⟨hk, hE⟩
  (conv => whnf)
  refine ask_m (fun h => ?_) (fun h => ?_)
  · have hlt : k < r.joints.length := by simp at h; omega
    obtain ⟨j, hj'⟩ : ∃ j, r.joints[k]? = some j := ⟨_, List.getElem?_eq_getElem hlt⟩
    have hkk : IntKind.i64.wrap ((k : Int) + 1) = ((k + 1 : Nat) : Int) := by rw [w64] <;> omega
    rw [drop_cons hj', jointsErr] at hE
    (conv => whnf)
    refine call_i (ref_checkJoint r.joints k j hj' hj) ?_
    (conv => whnf)
    refine ask_m (fun he => ?_) (fun he => ?_)
    · have he : ¬ jointErr r.joints k j = 0 := by simpa using he
      rw [if_neg he] at hE
      (conv => whnf)
      refine ret0 ?_
      exact ret_i (by rw [hE, if_pos he]) rfl
    · have he : jointErr r.joints k j = 0 := by simpa using he
      rw [if_pos he] at hE
      (conv => whnf)
      exact ⟨k + 1, [], ⟨hlt, hE⟩, by omega, ⟨⟨rfl, eqI hkk, trivial⟩, ⟨rfl, trivial⟩⟩⟩
  · have hk : k = r.joints.length := by simp at h; omega
    subst hk
    rw [List.drop_length, jointsErr] at hE
    rw [hE, if_neg (by simp)]
    (conv => whnf)
    refine ask_m (fun h3 => ?_) (fun h3 => ?_)
    · have h3 : 32 < r.masses.length := by have := of_decide_eq_true h3; simp only [List.length_map] at this; omega
      rw [if_pos (.inl h3)]
      (conv => whnf)
      refine ret0 ?_
      exact ret_i rfl rfl
    have h3 : ¬ 32 < r.masses.length := by have := of_decide_eq_false h3; simp only [List.length_map] at this; omega
    (conv => whnf)
    refine loop_intro (fun k : Nat => ⟨[(1, .one (.vptr 0 0)), (5, I k)], [(0, bRo r)], 1⟩) (fun k => k ≤ r.masses.length ∧ (r.masses.take k).all (massOk r.joints.length) = true) (fun k => r.masses.length - k) [] 0 [] ⟨Nat.zero_le _, rfl⟩ ⟨⟨rfl, rfl, trivial⟩, ⟨rfl, trivial⟩⟩ ?_
    rintro k ⟨hk, hall⟩
    (conv => whnf)
    refine ask_m (fun h4 => ?_) (fun h4 => ?_)
    · have hlt : k < r.masses.length := by simp at h4; omega
      obtain ⟨m, hm'⟩ : ∃ j, r.masses[k]? = some j := ⟨_, List.getElem?_eq_getElem hlt⟩
      have hkk : IntKind.i64.wrap ((k : Int) + 1) = ((k + 1 : Nat) : Int) := by rw [w64] <;> omega
      have bad : massOk r.joints.length m = false → (if 32 < r.masses.length ∨ r.masses.all (massOk r.joints.length) = false then (808 : Int) else 0) = 808 := fun h => by rw [if_pos (.inr (all_not hm' h))]
      have hM : massOk r.joints.length m = (decide (0 ≤ m.link) && decide (m.link < r.joints.length) && betw m.mass 1 65536 && inV m.point 4194304) := rfl
      (conv => whnf)
      refine idx_and (by omega) (by simpa using hm') ?_
      (conv => whnf)
      refine ask_m (fun a1 => ?_) (fun a1 => ?_)
      · have a1 := of_decide_eq_true a1
        rw [bad (by rw [hM, decide_eq_false (by omega)]; simp)]
        (conv => whnf)
        refine ret0 ?_
        exact ret_i rfl rfl
      have a1 := of_decide_eq_false a1
      (conv => whnf)
      rw [List.length_map]
      refine ask_m (fun a2 => ?_) (fun a2 => ?_)
      · have a2 := of_decide_eq_true a2
        rw [bad (by rw [hM, decide_eq_false (p := m.link < _) (by omega)]; simp)]
        (conv => whnf)
        refine ret0 ?_
        exact ret_i rfl rfl
      have a2 := of_decide_eq_false a2
      (conv => whnf)
      refine call_i (ref_between m.mass 1 65536) ?_
      (conv => whnf)
      refine ask_m (fun a3 => ?_) (fun a3 => ?_)
      · have a3 : betw m.mass 1 65536 = false := by simpa using a3
        rw [bad (by rw [hM, a3]; simp)]
        (conv => whnf)
        refine ret0 ?_
        exact ret_i rfl rfl
      have a3 : betw m.mass 1 65536 = true := by simpa using a3
      (conv => whnf)
      refine call_i (ref_Near m.point 4194304 (by decide) (by decide)) ?_
      (conv => whnf)
      refine ask_m (fun a4 => ?_) (fun a4 => ?_)
      · have a4 : inV m.point 4194304 = false := by simpa using a4
        rw [bad (by rw [hM, a4]; simp)]
        (conv => whnf)
        refine ret0 ?_
        exact ret_i rfl rfl
      have a4 : inV m.point 4194304 = true := by simpa using a4
      (conv => whnf)
      exact ⟨k + 1, [], ⟨hlt, all_take hall hm' (by rw [hM, a3, a4, decide_eq_true (by omega), decide_eq_true (p := m.link < _) (by omega)]; rfl)⟩, by omega, ⟨⟨rfl, eqI hkk, trivial⟩, ⟨rfl, trivial⟩⟩⟩
    · have hk : k = r.masses.length := by simp at h4; omega
      subst hk
      rw [List.take_length] at hall
      rw [hall, if_neg (by simp; omega)]
      (conv => whnf)
      refine ret0 ?_
      exact ret_i rfl rfl
theorem ref_CheckScene (s : Scene) (hs : small s) : FnOk Try.prog F.ref6_CheckScene [Sc s] [] 0 (I (checkScene s)) [] 0 := by
  refine fnOk tab mix G.ref6_CheckScene rfl rfl (by kernel_rfl) rfl rfl ?_
  (conv => whnf)
  obtain ⟨s1, s2, s3, s4, s5⟩ := hs
  refine call_i (ref_CheckRobot s.robot s1 s2) ?_
  (conv => whnf)
  refine ask_m (fun h => ?_) (fun h => ?_)
  · have h : ¬ checkRobot s.robot = 0 := by simpa using h
    (conv => whnf)
    refine ret0 ?_
    exact ret_i (by unfold checkScene; rw [if_pos h]) rfl
  have h0 : checkRobot s.robot = 0 := by simpa using h
  have e : checkScene s = if 24 < s.shapes.length then 901
    else if shapesErr s.robot.joints.length s.shapes ≠ 0 then shapesErr s.robot.joints.length s.shapes
    else if 64 < s.skips.length then 903
    else if (s.skips.all (skipOk s.robot.joints.length)) = false then 903
    else 0 := by unfold checkScene; rw [if_neg (by rw [h0]; simp)]; rfl
  rw [e]
  clear e
  (conv => whnf)
  refine ask_m (fun h1 => ?_) (fun h1 => ?_)
  · have h1 : 24 < s.shapes.length := by have := of_decide_eq_true h1; simp only [List.length_map] at this; omega
    rw [if_pos h1]
    (conv => whnf)
    refine ret0 ?_
    exact ret_i rfl rfl
  have h1 : ¬ 24 < s.shapes.length := by have := of_decide_eq_false h1; simp only [List.length_map] at this; omega
  rw [if_neg h1]
  (conv => whnf)
  refine loop_intro (fun k : Nat => ⟨[(1, .one (.vptr 0 0)), (4, I k)], [(0, bSc s)], 1⟩) (fun k => k ≤ s.shapes.length ∧ shapesErr s.robot.joints.length s.shapes = shapesErr s.robot.joints.length (s.shapes.drop k)) (fun k => s.shapes.length - k) [] 0 [] ⟨Nat.zero_le _, rfl⟩ ⟨⟨rfl, rfl, trivial⟩, ⟨rfl, trivial⟩⟩ ?_
  rintro k ⟨hk, hE⟩
  (conv => whnf)
  refine ask_m (fun h2 => ?_) (fun h2 => ?_)
  · have hlt : k < s.shapes.length := by simp at h2; omega
    obtain ⟨x, hx⟩ : ∃ j, s.shapes[k]? = some j := ⟨_, List.getElem?_eq_getElem hlt⟩
    have hkk : IntKind.i64.wrap ((k : Int) + 1) = ((k + 1 : Nat) : Int) := by rw [w64] <;> omega
    have hxp := s5 x (List.mem_of_getElem? hx)
    rw [drop_cons hx, shapesErr] at hE
    have e1 : (linkOk s.robot.joints.length x.link = false ∨ x.radius < 1 ∨ 1048576 < x.radius ∨ x.points.length < 1 ∨ 8 < x.points.length) → shapesErr s.robot.joints.length s.shapes = 902 := fun h => by
      have : shapeErr s.robot.joints.length x = 902 := by rw [shapeErr, if_pos h]
      rw [hE, this, if_neg (by decide)]
    have e2 : ¬ (linkOk s.robot.joints.length x.link = false ∨ x.radius < 1 ∨ 1048576 < x.radius ∨ x.points.length < 1 ∨ 8 < x.points.length) → x.points.all (inV · 4194304) = false → shapesErr s.robot.joints.length s.shapes = 805 := fun h h' => by
      have : shapeErr s.robot.joints.length x = 805 := by rw [shapeErr, if_neg h, if_pos h']
      rw [hE, this, if_neg (by decide)]
    have e3 : ¬ (linkOk s.robot.joints.length x.link = false ∨ x.radius < 1 ∨ 1048576 < x.radius ∨ x.points.length < 1 ∨ 8 < x.points.length) → x.points.all (inV · 4194304) = true → shapesErr s.robot.joints.length s.shapes = shapesErr s.robot.joints.length (s.shapes.drop (k + 1)) := fun h h' => by
      have : shapeErr s.robot.joints.length x = 0 := by rw [shapeErr, if_neg h, if_neg (by rw [h']; simp)]
      rw [hE, this, if_pos rfl]
    (conv => whnf)
    refine idx_and (by omega) (by simpa using hx) ?_
    (conv => whnf)
    refine call_i (ref_isLink s.robot x.link) ?_
    (conv => whnf)
    refine ask_m (fun a1 => ?_) (fun a1 => ?_)
    · have a1 : linkOk s.robot.joints.length x.link = false := by simpa using a1
      rw [e1 (.inl a1), if_pos (by decide)]
      (conv => whnf)
      refine ret0 ?_
      exact ret_i rfl rfl
    have a1 : linkOk s.robot.joints.length x.link = true := by simpa using a1
    (conv => whnf)
    refine call_i (ref_between x.radius 1 1048576) ?_
    (conv => whnf)
    refine ask_m (fun a2 => ?_) (fun a2 => ?_)
    · have a2 : betw x.radius 1 1048576 = false := by simpa using a2
      rw [e1 (by simp [betw] at a2; omega), if_pos (by decide)]
      (conv => whnf)
      refine ret0 ?_
      exact ret_i rfl rfl
    have a2 : betw x.radius 1 1048576 = true := by simpa using a2
    simp [betw] at a2
    (conv => whnf)
    refine ask_m (fun a3 => ?_) (fun a3 => ?_)
    · have a3 : x.points.length < 1 := by have := of_decide_eq_true a3; simp only [List.length_map] at this; omega
      rw [e1 (by omega), if_pos (by decide)]
      (conv => whnf)
      refine ret0 ?_
      exact ret_i rfl rfl
    have a3 : ¬ x.points.length < 1 := by have := of_decide_eq_false a3; simp only [List.length_map] at this; omega
    (conv => whnf)
    refine ask_m (fun a4 => ?_) (fun a4 => ?_)
    · have a4 : 8 < x.points.length := by have := of_decide_eq_true a4; simp only [List.length_map] at this; omega
      rw [e1 (by omega), if_pos (by decide)]
      (conv => whnf)
      refine ret0 ?_
      exact ret_i rfl rfl
    have a4 : ¬ 8 < x.points.length := by have := of_decide_eq_false a4; simp only [List.length_map] at this; omega
    have hno : ¬ (linkOk s.robot.joints.length x.link = false ∨ x.radius < 1 ∨ 1048576 < x.radius ∨ x.points.length < 1 ∨ 8 < x.points.length) := by rw [a1]; rintro (h | h | h | h | h) <;> first | contradiction | omega
    (conv => whnf)
    refine loop_intro (fun c : Nat => ⟨[(1, .one (.vptr 0 0)), (4, I k), (5, .one (.vptr 1 0)), (6, I c)], [(0, bSc s), (1, .vars Y.Shape [.dv (.int .i64 x.link), .dv (.int .i64 x.radius), .dv (dVs x.points)])], 2⟩) (fun c => c ≤ x.points.length ∧ (x.points.take c).all (inV · 4194304) = true) (fun c => x.points.length - c) [] 0 [] ⟨Nat.zero_le _, rfl⟩ ⟨⟨rfl, rfl, rfl, rfl, trivial⟩, ⟨rfl, rfl, trivial⟩⟩ ?_
    rintro c ⟨hc, hall⟩
    (conv => whnf)
    refine ask_m (fun a5 => ?_) (fun a5 => ?_)
    · have hcl : c < x.points.length := by simp at a5; omega
      obtain ⟨p, hp⟩ : ∃ j, x.points[c]? = some j := ⟨_, List.getElem?_eq_getElem hcl⟩
      have hcc : IntKind.i64.wrap ((c : Int) + 1) = ((c + 1 : Nat) : Int) := by rw [w64] <;> omega
      (conv => whnf)
      refine idx_and (by omega) (by simpa using hp) ?_
      (conv => whnf)
      refine call_i (ref_Near p 4194304 (by decide) (by decide)) ?_
      (conv => whnf)
      refine ask_m (fun a6 => ?_) (fun a6 => ?_)
      · have a6 : inV p 4194304 = false := by simpa using a6
        rw [e2 hno (all_not hp a6), if_pos (by decide)]
        (conv => whnf)
        refine ret0 ?_
        exact ret_i rfl rfl
      · have a6 : inV p 4194304 = true := by simpa using a6
        (conv => whnf)
        exact ⟨c + 1, [], ⟨hcl, all_take hall hp a6⟩, by omega, ⟨⟨rfl, rfl, rfl, eqI hcc, trivial⟩, ⟨rfl, rfl, trivial⟩⟩⟩
    · have hc : c = x.points.length := by simp at a5; omega
      subst hc
      rw [List.take_length] at hall
      (conv => whnf)
      exact ⟨k + 1, [], ⟨hlt, e3 hno hall⟩, by omega, ⟨⟨rfl, eqI hkk, trivial⟩, ⟨rfl, trivial⟩⟩⟩
  · have hk : k = s.shapes.length := by simp at h2; omega
    subst hk
    rw [List.drop_length, shapesErr] at hE
    rw [hE, if_neg (by simp)]
    (conv => whnf)
    refine ask_m (fun h3 => ?_) (fun h3 => ?_)
    · have h3 : 64 < s.skips.length := by have := of_decide_eq_true h3; simp only [List.length_map] at this; omega
      rw [if_pos h3]
      (conv => whnf)
      refine ret0 ?_
      exact ret_i rfl rfl
    have h3 : ¬ 64 < s.skips.length := by have := of_decide_eq_false h3; simp only [List.length_map] at this; omega
    rw [if_neg h3]
    (conv => whnf)
    refine loop_intro (fun k : Nat => ⟨[(1, .one (.vptr 0 0)), (7, I k)], [(0, bSc s)], 1⟩) (fun k => k ≤ s.skips.length ∧ (s.skips.take k).all (skipOk s.robot.joints.length) = true) (fun k => s.skips.length - k) [] 0 [] ⟨Nat.zero_le _, rfl⟩ ⟨⟨rfl, rfl, trivial⟩, ⟨rfl, trivial⟩⟩ ?_
    rintro k ⟨hk, hall⟩
    (conv => whnf)
    refine ask_m (fun h4 => ?_) (fun h4 => ?_)
    · have hlt : k < s.skips.length := by simp at h4; omega
      obtain ⟨m, hm'⟩ : ∃ j, s.skips[k]? = some j := ⟨_, List.getElem?_eq_getElem hlt⟩
      have hkk : IntKind.i64.wrap ((k : Int) + 1) = ((k + 1 : Nat) : Int) := by rw [w64] <;> omega
      (conv => whnf)
      refine idx_and (by omega) (by simpa using hm') ?_
      (conv => whnf)
      refine call_i (ref_isLink s.robot m.a) ?_
      (conv => whnf)
      refine ask_m (fun a1 => ?_) (fun a1 => ?_)
      · have a1 : linkOk s.robot.joints.length m.a = false := by simpa using a1
        rw [if_pos (all_not hm' (by simp [skipOk, a1]))]
        (conv => whnf)
        refine ret0 ?_
        exact ret_i rfl rfl
      have a1 : linkOk s.robot.joints.length m.a = true := by simpa using a1
      (conv => whnf)
      refine idx_and (by omega) (by simpa using hm') ?_
      (conv => whnf)
      refine call_i (ref_isLink s.robot m.b) ?_
      (conv => whnf)
      refine ask_m (fun a2 => ?_) (fun a2 => ?_)
      · have a2 : linkOk s.robot.joints.length m.b = false := by simpa using a2
        rw [if_pos (all_not hm' (by simp [skipOk, a2]))]
        (conv => whnf)
        refine ret0 ?_
        exact ret_i rfl rfl
      · have a2 : linkOk s.robot.joints.length m.b = true := by simpa using a2
        (conv => whnf)
        exact ⟨k + 1, [], ⟨hlt, all_take hall hm' (by simp [skipOk, a1, a2])⟩, by omega, ⟨⟨rfl, eqI hkk, trivial⟩, ⟨rfl, trivial⟩⟩⟩
    · have hk : k = s.skips.length := by simp at h4; omega
      subst hk
      rw [List.take_length] at hall
      rw [hall, if_neg (by simp)]
      (conv => whnf)
      refine ret0 ?_
      exact ret_i rfl rfl
end Go.Proofs.Ytopcjmipldkijaa

/- Names and small numbers: what the code of the chapters 6, 8 and 9 asks of them. -/
namespace Go.Proofs.Ytopcjmipldkijaa
open Eng
set_option maxRecDepth 10000
attribute [local irreducible] FnOk loopW idxF retX arrF

theorem token_isLetter (c : Int) : FnOk Try.prog F.token_isLetter [Ru c] [] 0 (Bo (letterB c)) [] 0 := by
  refine fnOk tab mix G.token_isLetter rfl rfl (by kernel_rfl) rfl rfl ?_
  repeat' ((conv => whnf); first | refine ask_m (fun h => ?_) (fun h => ?_) | refine ret0 ?_)
  all_goals exact ret_b (by first | (simp_all [letterB]; done) | (simp_all [letterB]; omega)) rfl
theorem token_isDigit (c : Int) : FnOk Try.prog F.token_isDigit [Ru c] [] 0 (Bo (digitB c)) [] 0 := by
  refine fnOk tab mix G.token_isDigit rfl rfl (by kernel_rfl) rfl rfl ?_
  repeat' ((conv => whnf); first | refine ask_m (fun h => ?_) (fun h => ?_) | refine ret0 ?_)
  all_goals exact ret_b (by first | (simp_all [digitB]; done) | (simp_all [digitB]; omega)) rfl
theorem token_Name (s : ByteArray) : FnOk Try.prog F.token_Name [Tx s] [] 0 (Bo (nameOk s)) [] 0 := by
  refine fnOk tab mix G.token_Name rfl rfl (by kernel_rfl) rfl rfl ?_
  (conv => whnf)
  refine ask_m (fun h => ?_) (fun h => ?_)
  · (conv => whnf)
    refine ret0 ?_
    exact ret_b (by have : s.size = 0 := by simpa using h
                    simp [nameOk, this]) rfl
  have h1 : 1 ≤ s.size := by have : ¬ (s.size : Int) = 0 := by simpa using h
                             omega
  (conv => whnf)
  refine ask_m (fun h => ?_) (fun h => ?_)
  · (conv => whnf)
    refine ret0 ?_
    exact ret_b (by have : ¬ s.size ≤ 16 := by have := of_decide_eq_true h; omega
                    simp [nameOk, this]) rfl
  have h2 : s.size ≤ 16 := by have := of_decide_eq_false h; omega
  (conv => whnf)
  refine ask_m (fun h => ?_) (fun h => ?_)
  · (conv => whnf)
    refine ret0 ?_
    exact ret_b (by have : s = worldT := of_decide_eq_true h
                    subst this; rfl) rfl
  have h3 : decide (s = worldT) = false := h
  (conv => whnf)
  refine loop_intro (fun k : Nat => ⟨[(18, .one (.vptr 0 0))], [(0, .iter s k)], 1⟩) (fun k => k ≤ s.size ∧ ((List.range k).all fun i => nameB i (byteAt s i)) = true) (fun k => s.size - k) [] 0 [] ⟨Nat.zero_le _, rfl⟩ ⟨⟨rfl, trivial⟩, ⟨rfl, trivial⟩⟩ ?_
  rintro k ⟨hk, hall⟩
  (conv => whnf)
  refine ask_m (fun h => ?_) (fun h => ?_)
  · have hlt : k < s.size := of_decide_eq_true h
    obtain ⟨d1, d2⟩ := dec_name hlt
    have bad : nameB k ((Utf8.decode s k).1 : Int) = false → nameOk s = false := fun h => name_not hlt (by rw [← d1]; exact h)
    have good : nameB k ((Utf8.decode s k).1 : Int) = true → (Utf8.decode s k).2 = 1 ∧ ((List.range (k + 1)).all fun i => nameB i (byteAt s i)) = true := fun h => by
      rw [d1] at h
      exact ⟨d2 h, names_take hall h⟩
    generalize ((Utf8.decode s k).1 : Nat) = c at *
    generalize (Utf8.decode s k).2 = w at *
    (conv => whnf)
    refine call_i (token_isLetter c) ?_
    (conv => whnf)
    refine ask_m (fun hl => ?_) (fun hl => ?_)
    · have hl : letterB c = false := by simpa using hl
      (conv => whnf)
      refine ask_m (fun h0 => ?_) (fun h0 => ?_)
      · have h0 : k = 0 := by simpa using h0
        (conv => whnf)
        refine ret0 ?_
        exact ret_b (bad (by simp [nameB, hl, h0])).symm rfl
      have h0 : k ≠ 0 := by simpa using h0
      (conv => whnf)
      refine call_i (token_isDigit c) ?_
      (conv => whnf)
      refine ask_m (fun hd => ?_) (fun hd => ?_)
      · have hd : digitB c = false := by simpa using hd
        (conv => whnf)
        refine ask_m (fun hu => ?_) (fun hu => ?_)
        · have hu : ¬ (c : Int) = 95 := by simpa using hu
          (conv => whnf)
          refine ret0 ?_
          exact ret_b (bad (by simp [nameB, hl, hd, hu])).symm rfl
        · have hu : (c : Int) = 95 := by simpa using hu
          obtain ⟨rfl, g⟩ := good (by simp [nameB, h0, hu])
          (conv => whnf)
          exact ⟨k + 1, [], ⟨hlt, g⟩, by omega, ⟨⟨rfl, trivial⟩, ⟨rfl, trivial⟩⟩⟩
      · have hd : digitB c = true := by simpa using hd
        obtain ⟨rfl, g⟩ := good (by simp [nameB, h0, hd])
        (conv => whnf)
        exact ⟨k + 1, [], ⟨hlt, g⟩, by omega, ⟨⟨rfl, trivial⟩, ⟨rfl, trivial⟩⟩⟩
    · have hl : letterB c = true := by simpa using hl
      obtain ⟨rfl, g⟩ := good (by simp [nameB, hl])
      (conv => whnf)
      exact ⟨k + 1, [], ⟨hlt, g⟩, by omega, ⟨⟨rfl, trivial⟩, ⟨rfl, trivial⟩⟩⟩
  · have hk : k = s.size := by have := of_decide_eq_false h; omega
    subst hk
    (conv => whnf)
    refine ret0 ?_
    exact ret_b (by simp [nameOk, h1, h2, h3, hall]) rfl
end Go.Proofs.Ytopcjmipldkijaa

/- Robots: the parts of their check. -/
namespace Go.Proofs.Ytopcjmipldkijaa
open Eng
set_option maxRecDepth 10000
attribute [local irreducible] FnOk loopW idxF retX arrF

theorem robot_Find (r : Robot) (nm : ByteArray) (hl : r.joints.length ≤ 4611686018427387904) : FnOk Try.prog F.robot_Find [Ro r, Tx nm] [] 0 (I (find r.joints nm 0)) [] 0 := by
  refine fnOk tab mix G.robot_Find rfl rfl (by kernel_rfl) rfl rfl ?_
  (conv => whnf)
  refine loop_intro (fun k : Nat => ⟨[(1, Tx nm), (2, .one (.vptr 0 0)), (8, I r.joints.length), (9, I k)], [(0, bRo r)], 1⟩) (fun k => k ≤ r.joints.length ∧ find (r.joints.drop k) nm k = find r.joints nm 0) (fun k => r.joints.length - k) [] 0 [] ⟨Nat.zero_le _, rfl⟩ ⟨⟨rfl, rfl, eqI (by simp), rfl, trivial⟩, ⟨rfl, trivial⟩⟩ ?_
  rintro k ⟨hk, hf⟩
  (conv => whnf)
  refine ask_m (fun h => ?_) (fun h => ?_)
  · have hlt : k < r.joints.length := by simpa using h
    obtain ⟨j, hj⟩ : ∃ j, r.joints[k]? = some j := ⟨_, List.getElem?_eq_getElem hlt⟩
    have hkk : IntKind.i64.wrap ((k : Int) + 1) = ((k + 1 : Nat) : Int) := by rw [w64] <;> omega
    rw [drop_cons hj, find] at hf
    (conv => whnf)
    refine idx_and (by omega) (by simpa using hj) ?_
    (conv => whnf)
    refine ask_m (fun h => ?_) (fun h => ?_)
    · have h : j.name = nm := of_decide_eq_true h
      rw [if_pos h] at hf
      (conv => whnf)
      refine ret0 ?_
      exact ret_i hf rfl
    · have h : ¬ j.name = nm := of_decide_eq_false h
      rw [if_neg h] at hf
      (conv => whnf)
      exact ⟨k + 1, [], ⟨hlt, hf⟩, by omega, ⟨⟨rfl, rfl, rfl, eqI hkk, trivial⟩, ⟨rfl, trivial⟩⟩⟩
  · have hk : k = r.joints.length := by simp at h; omega
    subst hk
    rw [List.drop_length, find] at hf
    (conv => whnf)
    refine ret0 ?_
    exact ret_i hf rfl
theorem robot_from1 (x m : Int) : FnOk Try.prog F.robot_from1 [I x, I m] [] 0 (Bo (from1 x m)) [] 0 := by
  refine fnOk tab mix G.robot_from1 rfl rfl (by kernel_rfl) rfl rfl ?_
  repeat' ((conv => whnf); first | refine ask_m (fun h => ?_) (fun h => ?_) | refine ret0 ?_)
  all_goals exact ret_b (by first | (simp_all [from1]; done) | (simp_all [from1]; omega)) rfl
theorem robot_limit (k : Int) : FnOk Try.prog F.robot_limit [I k] [] 0 (I (reach k)) [] 0 := by
  refine fnOk tab mix G.robot_limit rfl rfl (by kernel_rfl) rfl rfl ?_
  repeat' ((conv => whnf); first | refine ask_m (fun h => ?_) (fun h => ?_) | refine ret0 ?_)
  all_goals exact ret_i (by simp_all [reach]) rfl
def inC (x : Int) : Bool := decide (-4194304 ≤ x) && decide (x ≤ 4194304)
def vAt (v : Vec) : Nat → Int
  | 0 => v.x
  | 1 => v.y
  | _ => v.z
theorem inV_at {v : Vec} {k : Nat} (hk : k < 3) (h : inC (vAt v k) = false) : inV v 4194304 = false := by
  obtain rfl | rfl | rfl : k = 0 ∨ k = 1 ∨ k = 2 := by omega
  all_goals (simp only [vAt, inC] at h; unfold inV; rw [h]; simp)
theorem inV_all {v : Vec} (h : ∀ k, k < 3 → inC (vAt v k) = true) : inV v 4194304 = true := by
  have h0 := h 0 (by omega)
  have h1 := h 1 (by omega)
  have h2 := h 2 (by omega)
  simp only [vAt, inC] at h0 h1 h2
  unfold inV; rw [h0, h1, h2]; rfl
theorem arr_vec {te : TI} {v : Vec} {k : Nat} {K : SV → Prop} (ha : te.kind.agg = false) (hs : te.size = 1) (hk : k < 3) (h : K (I (vAt v k))) : arrF te [.dv (.int .i64 v.x), .dv (.int .i64 v.y), .dv (.int .i64 v.z)] k K := by
  obtain rfl | rfl | rfl : k = 0 ∨ k = 1 ∨ k = 2 := by omega
  · exact arr_at ha hs (c := .dv (.int .i64 v.x)) rfl h
  · exact arr_at ha hs (c := .dv (.int .i64 v.y)) rfl h
  · exact arr_at ha hs (c := .dv (.int .i64 v.z)) rfl h
theorem robot_beyond (v : Vec) : FnOk Try.prog F.robot_beyond [Ve v] [] 0 (Bo (!inV v 4194304)) [] 0 := by
  refine fnOk tab mix G.robot_beyond rfl rfl (by kernel_rfl) rfl rfl ?_
  (conv => whnf)
  refine loop_intro (fun k : Nat => ⟨[(5, Ve v), (6, I k)], [], 0⟩) (fun k => k ≤ 3 ∧ ∀ i, i < k → inC (vAt v i) = true) (fun k => 3 - k) [] 0 [] ⟨Nat.zero_le _, fun i hi => by omega⟩ ⟨⟨rfl, rfl, trivial⟩, trivial⟩ ?_
  rintro k ⟨hk, hall⟩
  (conv => whnf)
  refine ask_m (fun h => ?_) (fun h => ?_)
  · have hlt : k < 3 := by have := of_decide_eq_true h; omega
    have hkk : IntKind.i64.wrap ((k : Int) + 1) = ((k + 1 : Nat) : Int) := by rw [w64] <;> omega
    (conv => whnf)
    refine ⟨⟨by omega, by omega⟩, ?_⟩
    (conv => whnf)
    rw [Int.toNat_natCast]
    refine arr_vec rfl rfl hlt ?_
    have bad : inC (vAt v k) = false → (!inV v 4194304) = true := fun h => by rw [inV_at hlt h]; rfl
    generalize hx : vAt v k = x at *
    (conv => whnf)
    refine ask_m (fun h => ?_) (fun h => ?_)
    · have h := of_decide_eq_true h
      (conv => whnf)
      refine ret0 ?_
      exact ret_b (bad (by simp only [inC, Bool.and_eq_false_iff, decide_eq_false_iff_not]; omega)).symm rfl
    · have h := of_decide_eq_false h
      (conv => whnf)
      refine ask_m (fun h => ?_) (fun h => ?_)
      · have h := of_decide_eq_true h
        (conv => whnf)
        refine ret0 ?_
        exact ret_b (bad (by simp only [inC, Bool.and_eq_false_iff, decide_eq_false_iff_not]; omega)).symm rfl
      · have h2 := of_decide_eq_false h
        (conv => whnf)
        refine ⟨k + 1, [], ⟨hlt, fun i hi => ?_⟩, by omega, ⟨⟨rfl, eqI hkk, trivial⟩, trivial⟩⟩
        by_cases e : i = k
        · subst e; rw [hx]; simp only [inC, Bool.and_eq_true, decide_eq_true_eq]; omega
        · exact hall i (by omega)
  · have hk : k = 3 := by have := of_decide_eq_false h; omega
    subst hk
    (conv => whnf)
    refine ret0 ?_
    exact ret_b (by rw [inV_all hall]; rfl) rfl
end Go.Proofs.Ytopcjmipldkijaa

/- Robots: their check. -/
namespace Go.Proofs.Ytopcjmipldkijaa
open Eng
set_option maxRecDepth 10000
attribute [local irreducible] FnOk loopW idxF retX arrF

theorem robot_checkJoint (r : Robot) (i : Nat) (j : Joint) (hj : r.joints[i]? = some j) (hl : r.joints.length ≤ 4611686018427387904) : FnOk Try.prog F.robot_checkJoint [Ro r, I i] [] 0 (I (jointErr r.joints i j)) [] 0 := by
  refine fnOk tab mix G.robot_checkJoint rfl rfl (by kernel_rfl) rfl rfl ?_
  have hw : IntKind.i64.wrap (0 - reach j.kind) = - reach j.kind := by
    rcases reach_cases j.kind with h | h | h <;> rw [h] <;> rfl
  have e1 : nameOk j.name = false ∨ find r.joints j.name 0 ≠ i → jointErr r.joints i j = 802 := fun h => by unfold jointErr; rw [if_pos h]
  (conv => whnf)
  refine idx_and (by omega) (by simpa using hj) ?_
  (conv => whnf)
  refine call_i (token_Name j.name) ?_
  (conv => whnf)
  refine ask_m (fun h => ?_) (fun h => ?_)
  · (conv => whnf)
    refine ret0 ?_
    exact ret_i (e1 (.inl (by simpa using h))).symm rfl
  have n1 : nameOk j.name = true := by simpa using h
  (conv => whnf)
  refine call_i (robot_Find r j.name hl) ?_
  (conv => whnf)
  refine ask_m (fun h => ?_) (fun h => ?_)
  · (conv => whnf)
    refine ret0 ?_
    exact ret_i (e1 (.inr (by simpa using h))).symm rfl
  have n2 : find r.joints j.name 0 = i := by simpa using h
  have e2 : jointErr r.joints i j = if j.kind < 0 ∨ 6 < j.kind then 803
      else if j.parent < -1 ∨ (i : Int) ≤ j.parent then 804
      else if inV j.off 4194304 = false then 805
      else if j.hi < j.lo ∨ j.lo < - reach j.kind ∨ reach j.kind < j.hi then 806
      else if (from1 j.weight 1024 && from1 j.speed 1048576 && from1 j.accel 1048576 && from1 j.torque 1099511627776) = false then 807
      else 0 := by unfold jointErr; rw [if_neg (by simp [n1, n2])]
  rw [e2]
  (conv => whnf)
  refine ask_m (fun h => ?_) (fun h => ?_)
  · have h := of_decide_eq_true h
    (conv => whnf)
    refine ret0 ?_
    exact ret_i (by rw [if_pos (.inl h)]) rfl
  have k1 := of_decide_eq_false h
  (conv => whnf)
  refine ask_m (fun h => ?_) (fun h => ?_)
  · have h := of_decide_eq_true h
    (conv => whnf)
    refine ret0 ?_
    exact ret_i (by rw [if_pos (.inr h)]) rfl
  have k2 := of_decide_eq_false h
  rw [if_neg (by omega)]
  (conv => whnf)
  refine ask_m (fun h => ?_) (fun h => ?_)
  · have h := of_decide_eq_true h
    (conv => whnf)
    refine ret0 ?_
    exact ret_i (by rw [if_pos (.inl h)]) rfl
  have p1 := of_decide_eq_false h
  (conv => whnf)
  refine ask_m (fun h => ?_) (fun h => ?_)
  · have h := of_decide_eq_true h
    (conv => whnf)
    refine ret0 ?_
    exact ret_i (by rw [if_pos (.inr h)]) rfl
  have p2 := of_decide_eq_false h
  rw [if_neg (by omega)]
  (conv => whnf)
  refine call_i (robot_beyond j.off) ?_
  (conv => whnf)
  refine ask_m (fun h => ?_) (fun h => ?_)
  · (conv => whnf)
    refine ret0 ?_
    exact ret_i (by rw [if_pos (by simpa using h)]) rfl
  rw [if_neg (by simpa using h)]
  (conv => whnf)
  refine call_i (robot_limit j.kind) ?_
  (conv => whnf)
  refine ask_m (fun h => ?_) (fun h => ?_)
  · have h := of_decide_eq_true h
    (conv => whnf)
    refine ret0 ?_
    exact ret_i (by rw [if_pos (.inl h)]) rfl
  have l1 := of_decide_eq_false h
  (conv => whnf)
  rw [hw]
  refine ask_m (fun h => ?_) (fun h => ?_)
  · have h := of_decide_eq_true h
    (conv => whnf)
    refine ret0 ?_
    exact ret_i (by rw [if_pos (.inr (.inl h))]) rfl
  have l2 := of_decide_eq_false h
  (conv => whnf)
  refine ask_m (fun h => ?_) (fun h => ?_)
  · have h := of_decide_eq_true h
    (conv => whnf)
    refine ret0 ?_
    exact ret_i (by rw [if_pos (.inr (.inr h))]) rfl
  have l3 := of_decide_eq_false h
  rw [if_neg (by rintro (h | h | h) <;> contradiction)]
  (conv => whnf)
  refine call_i (robot_from1 j.weight 1024) ?_
  (conv => whnf)
  refine ask_m (fun h => ?_) (fun h => ?_)
  · (conv => whnf)
    refine ret0 ?_
    exact ret_i (by rw [if_pos (by simp at h; simp [h])]) rfl
  have f1 : from1 j.weight 1024 = true := by simpa using h
  (conv => whnf)
  refine call_i (robot_from1 j.speed 1048576) ?_
  (conv => whnf)
  refine ask_m (fun h => ?_) (fun h => ?_)
  · (conv => whnf)
    refine ret0 ?_
    exact ret_i (by rw [if_pos (by simp at h; simp [h])]) rfl
  have f2 : from1 j.speed 1048576 = true := by simpa using h
  (conv => whnf)
  refine call_i (robot_from1 j.accel 1048576) ?_
  (conv => whnf)
  refine ask_m (fun h => ?_) (fun h => ?_)
  · (conv => whnf)
    refine ret0 ?_
    exact ret_i (by rw [if_pos (by simp at h; simp [h])]) rfl
  have f3 : from1 j.accel 1048576 = true := by simpa using h
  (conv => whnf)
  refine call_i (robot_from1 j.torque 1099511627776) ?_
  (conv => whnf)
  refine ask_m (fun h => ?_) (fun h => ?_)
  · (conv => whnf)
    refine ret0 ?_
    exact ret_i (by rw [if_pos (by simp at h; simp [h])]) rfl
  have f4 : from1 j.torque 1099511627776 = true := by simpa using h
  (conv => whnf)
  refine ret0 ?_
  exact ret_i (by rw [if_neg (by simp [f1, f2, f3, f4])]) rfl
theorem robot_validMass (r : Robot) (m : Mass) : FnOk Try.prog F.robot_validMass [Ro r, Ma m] [] 0 (Bo (massOk r.joints.length m)) [] 0 := by
  refine fnOk tab mix G.robot_validMass rfl rfl (by kernel_rfl) rfl rfl ?_
  repeat' ((conv => whnf); first | refine ask_m (fun h => ?_) (fun h => ?_) | refine ret0 ?_ | refine call_i (robot_from1 m.mass 65536) ?_ | refine call_i (robot_beyond m.point) ?_)
  all_goals exact ret_b (by first | (simp_all [massOk]; done) | (simp_all [massOk]; omega)) rfl
theorem robot_Check_1 (r : Robot) (m : Mass) : FnOk Try.prog F.robot_Check_1 [Ma m, .one (.vptr 0 0)] [(0, bRo r)] 1 (Bo (!massOk r.joints.length m)) [(0, bRo r)] 1 := by
  refine fnOk tab mix G.robot_Check_1 rfl rfl (by kernel_rfl) rfl rfl ?_
  (conv => whnf)
  refine call_i (robot_validMass r m) ?_
  (conv => whnf)
  refine ret0 ?_
  exact ⟨[], ⟨rfl, trivial⟩, ⟨rfl, trivial⟩⟩
/-- the first mass that is not valid -/
def badMass (n : Nat) : List Mass → Nat → Int
  | [], _ => -1
  | m :: ms, k => if massOk n m then badMass n ms (k + 1) else k
theorem badMass_all (n : Nat) : ∀ (ms : List Mass) (k : Nat), decide (0 ≤ badMass n ms k) = !ms.all (massOk n)
  | [], k => by simp [badMass]
  | m :: ms, k => by
    unfold badMass
    split
    · rename_i h; rw [badMass_all n ms (k + 1)]; simp [h]
    · rename_i h; simp [h]
abbrev Fn1 : SV := .one (.fn F.robot_Check_1 [(0, 0)])
theorem masses_IndexFunc (r : Robot) (ms : List Mass) (hl : ms.length ≤ 4611686018427387904) : FnOk Try.prog F.slices_IndexFunc_sapi_Mass_api_Mass [.one (.dv (dMs ms)), Fn1] [(0, bRo r)] 1 (I (badMass r.joints.length ms 0)) [(0, bRo r)] 1 := by
  refine fnOk tab mix G.slices_IndexFunc_sapi_Mass_api_Mass rfl rfl (by kernel_rfl) rfl rfl ?_
  (conv => whnf)
  refine loop_intro (fun k : Nat => ⟨[(0, .one (.dv (dMs ms))), (1, Fn1), (7, I ms.length), (8, I k)], [(0, bRo r)], 1⟩) (fun k => k ≤ ms.length ∧ badMass r.joints.length (ms.drop k) k = badMass r.joints.length ms 0) (fun k => ms.length - k) [] 0 [] ⟨Nat.zero_le _, rfl⟩ ⟨⟨rfl, rfl, eqI (by simp), rfl, trivial⟩, ⟨rfl, trivial⟩⟩ ?_
  rintro k ⟨hk, hf⟩
  (conv => whnf)
  refine ask_m (fun h => ?_) (fun h => ?_)
  · have hlt : k < ms.length := by simpa using h
    obtain ⟨m, hm⟩ : ∃ j, ms[k]? = some j := ⟨_, List.getElem?_eq_getElem hlt⟩
    have hkk : IntKind.i64.wrap ((k : Int) + 1) = ((k + 1 : Nat) : Int) := by rw [w64] <;> omega
    rw [drop_cons hm, badMass] at hf
    (conv => whnf)
    refine idx_and (by omega) (by simpa using hm) ?_
    (conv => whnf)
    refine call_i (robot_Check_1 r m) ?_
    (conv => whnf)
    refine ask_m (fun h => ?_) (fun h => ?_)
    · have h : massOk r.joints.length m = false := by simpa using h
      rw [if_neg (by rw [h]; simp)] at hf
      rw [← hf]
      (conv => whnf)
      refine ret0 ?_
      exact ⟨[], ⟨rfl, trivial⟩, ⟨rfl, trivial⟩⟩
    · have h : massOk r.joints.length m = true := by simpa using h
      rw [if_pos h] at hf
      (conv => whnf)
      exact ⟨k + 1, [], ⟨hlt, hf⟩, by omega, ⟨⟨rfl, rfl, rfl, eqI hkk, trivial⟩, ⟨rfl, trivial⟩⟩⟩
  · have hk : k = ms.length := by simp at h; omega
    subst hk
    rw [List.drop_length, badMass] at hf
    rw [← hf]
    (conv => whnf)
    refine ret0 ?_
    exact ⟨[], ⟨rfl, trivial⟩, ⟨rfl, trivial⟩⟩
theorem masses_ContainsFunc (r : Robot) (ms : List Mass) (hl : ms.length ≤ 4611686018427387904) : FnOk Try.prog F.slices_ContainsFunc_sapi_Mass_api_Mass [.one (.dv (dMs ms)), Fn1] [(0, bRo r)] 1 (Bo (!ms.all (massOk r.joints.length))) [(0, bRo r)] 1 := by
  refine fnOk tab mix G.slices_ContainsFunc_sapi_Mass_api_Mass rfl rfl (by kernel_rfl) rfl rfl ?_
  rw [← badMass_all r.joints.length ms 0]
  (conv => whnf)
  refine call_i (masses_IndexFunc r ms hl) ?_
  (conv => whnf)
  refine ret0 ?_
  exact ⟨[], ⟨rfl, trivial⟩, ⟨rfl, trivial⟩⟩
theorem robot_Check (r : Robot) (hj : r.joints.length ≤ 4611686018427387904) (hm : r.masses.length ≤ 4611686018427387904) : FnOk Try.prog F.robot_Check [Ro r] [] 0 (I (checkRobot r)) [] 0 := by
  refine fnOk tab mix G.robot_Check rfl rfl (by kernel_rfl) rfl rfl ?_
  (conv => whnf)
  refine ask_m (fun h => ?_) (fun h => ?_)
  · have h : r.joints.length = 0 := by simpa using h
    (conv => whnf)
    refine ret0 ?_
    exact ret_i (by unfold checkRobot; rw [if_pos (.inl h)]) rfl
  have h1 : ¬ r.joints.length = 0 := by simpa using h
  (conv => whnf)
  refine ask_m (fun h => ?_) (fun h => ?_)
  · have h : 10 < r.joints.length := by have := of_decide_eq_true h; simp only [List.length_map] at this; omega
    (conv => whnf)
    refine ret0 ?_
    exact ret_i (by unfold checkRobot; rw [if_pos (.inr h)]) rfl
  have h2 : ¬ 10 < r.joints.length := by have := of_decide_eq_false h; simp only [List.length_map] at this; omega
  have e : checkRobot r = if jointsErr r.joints 0 r.joints ≠ 0 then jointsErr r.joints 0 r.joints
    else if 32 < r.masses.length ∨ r.masses.all (massOk r.joints.length) = false then 808 else 0 := by unfold checkRobot; rw [if_neg (by omega)]
  rw [e]
  (conv => whnf)
  refine loop_intro (fun k : Nat => ⟨[(1, .one (.vptr 0 0)), (17, I r.joints.length), (18, I k)], [(0, bRo r)], 1⟩) (fun k => k ≤ r.joints.length ∧ jointsErr r.joints k (r.joints.drop k) = jointsErr r.joints 0 r.joints) (fun k => r.joints.length - k) [] 0 [] ⟨Nat.zero_le _, rfl⟩ ⟨⟨rfl, eqI (by simp), rfl, trivial⟩, ⟨rfl, trivial⟩⟩ ?_
  rintro k ⟨hk, hf⟩
  (conv => whnf)
  refine ask_m (fun h => ?_) (fun h => ?_)
  · have hlt : k < r.joints.length := by simpa using h
    obtain ⟨j, hjk⟩ : ∃ j, r.joints[k]? = some j := ⟨_, List.getElem?_eq_getElem hlt⟩
    have hkk : IntKind.i64.wrap ((k : Int) + 1) = ((k + 1 : Nat) : Int) := by rw [w64] <;> omega
    rw [drop_cons hjk, jointsErr] at hf
    (conv => whnf)
    refine call_i (robot_checkJoint r k j hjk hj) ?_
    (conv => whnf)
    refine ask_m (fun h => ?_) (fun h => ?_)
    · have h : ¬ jointErr r.joints k j = 0 := by simpa using h
      rw [if_neg h] at hf
      (conv => whnf)
      refine ret0 ?_
      exact ret_i (by rw [← hf, if_pos h]) rfl
    · have h : jointErr r.joints k j = 0 := by simpa using h
      rw [if_pos h] at hf
      (conv => whnf)
      exact ⟨k + 1, [], ⟨hlt, hf⟩, by omega, ⟨⟨rfl, rfl, eqI hkk, trivial⟩, ⟨rfl, trivial⟩⟩⟩
  · have hk : k = r.joints.length := by simp at h; omega
    subst hk
    rw [List.drop_length, jointsErr] at hf
    rw [← hf, if_neg (by simp)]
    (conv => whnf)
    refine ask_m (fun h => ?_) (fun h => ?_)
    · have h : 32 < r.masses.length := by have := of_decide_eq_true h; simp only [List.length_map] at this; omega
      (conv => whnf)
      refine ret0 ?_
      exact ret_i (by rw [if_pos (.inl h)]) rfl
    · have h : ¬ 32 < r.masses.length := by have := of_decide_eq_false h; simp only [List.length_map] at this; omega
      (conv => whnf)
      refine call_i (masses_ContainsFunc r r.masses hm) ?_
      (conv => whnf)
      refine ask_m (fun h => ?_) (fun h => ?_)
      · (conv => whnf)
        refine ret0 ?_
        exact ret_i (by rw [if_pos (.inr (by simpa using h))]) rfl
      · (conv => whnf)
        refine ret0 ?_
        rename_i h32 _
        exact ret_i (by rw [if_neg]; rintro (h' | h'); · contradiction
                        · rw [h'] at h; cases h) rfl
end Go.Proofs.Ytopcjmipldkijaa

/- Scenes: their check, and the skipped pairs. -/
namespace Go.Proofs.Ytopcjmipldkijaa
open Eng
set_option maxRecDepth 10000
attribute [local irreducible] FnOk loopW idxF retX arrF

theorem scene_isLink (s : Scene) (k : Int) : FnOk Try.prog F.scene_isLink [Sc s, I k] [] 0 (Bo (linkOk s.robot.joints.length k)) [] 0 := by
  refine fnOk tab mix G.scene_isLink rfl rfl (by kernel_rfl) rfl rfl ?_
  repeat' ((conv => whnf); first | refine ask_m (fun h => ?_) (fun h => ?_) | refine ret0 ?_)
  all_goals exact ret_b (by first | (simp_all [linkOk]; done) | (simp_all [linkOk]; omega)) rfl
theorem scene_checkShape (s : Scene) (x : Shape) (hx : x.points.length ≤ 4611686018427387904) : FnOk Try.prog F.scene_checkShape [Sc s, Sh x] [] 0 (I (shapeErr s.robot.joints.length x)) [] 0 := by
  refine fnOk tab mix G.scene_checkShape rfl rfl (by kernel_rfl) rfl rfl ?_
  have e1 : linkOk s.robot.joints.length x.link = false ∨ x.radius < 1 ∨ 1048576 < x.radius ∨ x.points.length < 1 ∨ 8 < x.points.length → shapeErr s.robot.joints.length x = 902 := fun h => by unfold shapeErr; rw [if_pos h]
  (conv => whnf)
  refine call_i (scene_isLink s x.link) ?_
  (conv => whnf)
  refine ask_m (fun h => ?_) (fun h => ?_)
  · (conv => whnf)
    refine ret0 ?_
    exact ret_i (e1 (.inl (by simpa using h))).symm rfl
  have k1 : linkOk s.robot.joints.length x.link = true := by simpa using h
  (conv => whnf)
  refine ask_m (fun h => ?_) (fun h => ?_)
  · (conv => whnf)
    refine ret0 ?_
    exact ret_i (e1 (.inr (.inl (of_decide_eq_true h)))).symm rfl
  have k2 := of_decide_eq_false h
  (conv => whnf)
  refine ask_m (fun h => ?_) (fun h => ?_)
  · (conv => whnf)
    refine ret0 ?_
    exact ret_i (e1 (.inr (.inr (.inl (of_decide_eq_true h))))).symm rfl
  have k3 := of_decide_eq_false h
  (conv => whnf)
  refine ask_m (fun h => ?_) (fun h => ?_)
  · have h : x.points.length < 1 := by have := of_decide_eq_true h; simp only [List.length_map] at this; omega
    (conv => whnf)
    refine ret0 ?_
    exact ret_i (e1 (.inr (.inr (.inr (.inl h))))).symm rfl
  have k4 : ¬ x.points.length < 1 := by have := of_decide_eq_false h; simp only [List.length_map] at this; omega
  (conv => whnf)
  refine ask_m (fun h => ?_) (fun h => ?_)
  · have h : 8 < x.points.length := by have := of_decide_eq_true h; simp only [List.length_map] at this; omega
    (conv => whnf)
    refine ret0 ?_
    exact ret_i (e1 (.inr (.inr (.inr (.inr h))))).symm rfl
  have k5 : ¬ 8 < x.points.length := by have := of_decide_eq_false h; simp only [List.length_map] at this; omega
  have e2 : shapeErr s.robot.joints.length x = if x.points.all (inV · 4194304) = false then 805 else 0 := by
    unfold shapeErr; rw [if_neg]; rintro (h | h | h | h | h)
    · rw [k1] at h; cases h
    all_goals contradiction
  rw [e2]
  (conv => whnf)
  refine loop_intro (fun k : Nat => ⟨[(37, .one (.dv (dVs x.points))), (38, I x.points.length), (39, I k)], [], 0⟩) (fun k => k ≤ x.points.length ∧ (x.points.take k).all (inV · 4194304) = true) (fun k => x.points.length - k) [] 0 [] ⟨Nat.zero_le _, rfl⟩ ⟨⟨rfl, eqI (by simp), rfl, trivial⟩, trivial⟩ ?_
  rintro k ⟨hk, hall⟩
  (conv => whnf)
  refine ask_m (fun h => ?_) (fun h => ?_)
  · have hlt : k < x.points.length := by simpa using h
    obtain ⟨p, hp⟩ : ∃ j, x.points[k]? = some j := ⟨_, List.getElem?_eq_getElem hlt⟩
    have hkk : IntKind.i64.wrap ((k : Int) + 1) = ((k + 1 : Nat) : Int) := by rw [w64] <;> omega
    (conv => whnf)
    refine idx_and (by omega) (by simpa using hp) ?_
    (conv => whnf)
    refine loop_intro (fun i : Nat => ⟨[(37, .one (.dv (dVs x.points))), (38, I x.points.length), (39, I k), (43, Ve p), (44, I i)], [], 0⟩) (fun i => i ≤ 3 ∧ ∀ c, c < i → inC (vAt p c) = true) (fun i => 3 - i) [] 0 [] ⟨Nat.zero_le _, fun i hi => by omega⟩ ⟨⟨rfl, rfl, rfl, rfl, rfl, trivial⟩, trivial⟩ ?_
    rintro i ⟨hi, halli⟩
    (conv => whnf)
    refine ask_m (fun h => ?_) (fun h => ?_)
    · have hlti : i < 3 := by have := of_decide_eq_true h; omega
      have hii : IntKind.i64.wrap ((i : Int) + 1) = ((i + 1 : Nat) : Int) := by rw [w64] <;> omega
      have bad : inC (vAt p i) = false → (if x.points.all (inV · 4194304) = false then (805 : Int) else 0) = 805 := fun h => by
        rw [if_pos (all_not (f := (inV · 4194304)) hp (inV_at hlti h))]
      (conv => whnf)
      refine ⟨⟨by omega, by omega⟩, ?_⟩
      (conv => whnf)
      rw [Int.toNat_natCast]
      refine arr_vec rfl rfl hlti ?_
      generalize hv : vAt p i = v at *
      (conv => whnf)
      refine ask_m (fun h => ?_) (fun h => ?_)
      · have h := of_decide_eq_true h
        (conv => whnf)
        refine ret0 ?_
        exact ret_i (bad (by simp only [inC, Bool.and_eq_false_iff, decide_eq_false_iff_not]; omega)).symm rfl
      have h1 := of_decide_eq_false h
      (conv => whnf)
      refine ask_m (fun h => ?_) (fun h => ?_)
      · have h := of_decide_eq_true h
        (conv => whnf)
        refine ret0 ?_
        exact ret_i (bad (by simp only [inC, Bool.and_eq_false_iff, decide_eq_false_iff_not]; omega)).symm rfl
      have h2 := of_decide_eq_false h
      (conv => whnf)
      refine ⟨i + 1, [], ⟨hlti, fun c hc => ?_⟩, by omega, ⟨⟨rfl, rfl, rfl, rfl, eqI hii, trivial⟩, trivial⟩⟩
      by_cases e : c = i
      · subst e; rw [hv]; simp only [inC, Bool.and_eq_true, decide_eq_true_eq]; omega
      · exact halli c (by omega)
    · have hi : i = 3 := by have := of_decide_eq_false h; omega
      subst hi
      (conv => whnf)
      exact ⟨k + 1, [], ⟨hlt, all_take hall hp (inV_all halli)⟩, by omega, ⟨⟨rfl, rfl, eqI hkk, trivial⟩, trivial⟩⟩
  · have hk : k = x.points.length := by simp at h; omega
    subst hk
    rw [List.take_length] at hall
    (conv => whnf)
    refine ret0 ?_
    exact ret_i (by rw [if_neg (by rw [hall]; simp)]) rfl
/-- a scene whose lists are no longer than memory -/
theorem scene_Check (s : Scene) (hs : small s) : FnOk Try.prog F.scene_Check [Sc s] [] 0 (I (checkScene s)) [] 0 := by
  refine fnOk tab mix G.scene_Check rfl rfl (by kernel_rfl) rfl rfl ?_
  obtain ⟨s1, s2, s3, s4, s5⟩ := hs
  (conv => whnf)
  refine call_i (robot_Check s.robot s1 s2) ?_
  (conv => whnf)
  refine ask_m (fun h => ?_) (fun h => ?_)
  · have h : ¬ checkRobot s.robot = 0 := by simpa using h
    (conv => whnf)
    refine ret0 ?_
    exact ret_i (by unfold checkScene; rw [if_pos h]) rfl
  have h0 : checkRobot s.robot = 0 := by simpa using h
  have e : checkScene s = if 24 < s.shapes.length then 901
    else if shapesErr s.robot.joints.length s.shapes ≠ 0 then shapesErr s.robot.joints.length s.shapes
    else if 64 < s.skips.length then 903
    else if (s.skips.all (skipOk s.robot.joints.length)) = false then 903
    else 0 := by unfold checkScene; rw [if_neg (by rw [h0]; simp)]; rfl
  rw [e]
  (conv => whnf)
  refine ask_m (fun h => ?_) (fun h => ?_)
  · have h : 24 < s.shapes.length := by have := of_decide_eq_true h; simp only [List.length_map] at this; omega
    (conv => whnf)
    refine ret0 ?_
    exact ret_i (by rw [if_pos h]) rfl
  have h1 : ¬ 24 < s.shapes.length := by have := of_decide_eq_false h; simp only [List.length_map] at this; omega
  rw [if_neg h1]
  (conv => whnf)
  refine loop_intro (fun k : Nat => ⟨[(1, .one (.vptr 0 0)), (20, .one (.dv (dShs s.shapes))), (21, I s.shapes.length), (22, I k)], [(0, bSc s)], 1⟩) (fun k => k ≤ s.shapes.length ∧ shapesErr s.robot.joints.length (s.shapes.drop k) = shapesErr s.robot.joints.length s.shapes) (fun k => s.shapes.length - k) [] 0 [] ⟨Nat.zero_le _, rfl⟩ ⟨⟨rfl, rfl, eqI (by simp), rfl, trivial⟩, ⟨rfl, trivial⟩⟩ ?_
  rintro k ⟨hk, hf⟩
  (conv => whnf)
  refine ask_m (fun h => ?_) (fun h => ?_)
  · have hlt : k < s.shapes.length := by simpa using h
    obtain ⟨x, hx⟩ : ∃ j, s.shapes[k]? = some j := ⟨_, List.getElem?_eq_getElem hlt⟩
    have hkk : IntKind.i64.wrap ((k : Int) + 1) = ((k + 1 : Nat) : Int) := by rw [w64] <;> omega
    rw [drop_cons hx, shapesErr] at hf
    (conv => whnf)
    refine idx_and (by omega) (by simpa using hx) ?_
    (conv => whnf)
    refine call_i (scene_checkShape s x (s5 x (List.mem_of_getElem? hx))) ?_
    (conv => whnf)
    refine ask_m (fun h => ?_) (fun h => ?_)
    · have h : ¬ shapeErr s.robot.joints.length x = 0 := by simpa using h
      rw [if_neg h] at hf
      (conv => whnf)
      refine ret0 ?_
      exact ret_i (by rw [← hf, if_pos h]) rfl
    · have h : shapeErr s.robot.joints.length x = 0 := by simpa using h
      rw [if_pos h] at hf
      (conv => whnf)
      exact ⟨k + 1, [], ⟨hlt, hf⟩, by omega, ⟨⟨rfl, rfl, rfl, eqI hkk, trivial⟩, ⟨rfl, trivial⟩⟩⟩
  have hk : k = s.shapes.length := by simp at h; omega
  subst hk
  rw [List.drop_length, shapesErr] at hf
  rw [← hf, if_neg (by simp)]
  (conv => whnf)
  refine ask_m (fun h => ?_) (fun h => ?_)
  · have h : 64 < s.skips.length := by have := of_decide_eq_true h; simp only [List.length_map] at this; omega
    (conv => whnf)
    refine ret0 ?_
    exact ret_i (by rw [if_pos h]) rfl
  have h2 : ¬ 64 < s.skips.length := by have := of_decide_eq_false h; simp only [List.length_map] at this; omega
  rw [if_neg h2]
  (conv => whnf)
  refine loop_intro (fun k : Nat => ⟨[(1, .one (.vptr 0 0)), (38, .one (.dv (dSks s.skips))), (39, I s.skips.length), (40, I k)], [(0, bSc s)], 1⟩) (fun k => k ≤ s.skips.length ∧ (s.skips.take k).all (skipOk s.robot.joints.length) = true) (fun k => s.skips.length - k) [] 0 [] ⟨Nat.zero_le _, rfl⟩ ⟨⟨rfl, rfl, eqI (by simp), rfl, trivial⟩, ⟨rfl, trivial⟩⟩ ?_
  rintro k ⟨hk, hall⟩
  (conv => whnf)
  refine ask_m (fun h => ?_) (fun h => ?_)
  · have hlt : k < s.skips.length := by simpa using h
    obtain ⟨x, hx⟩ : ∃ j, s.skips[k]? = some j := ⟨_, List.getElem?_eq_getElem hlt⟩
    have hkk : IntKind.i64.wrap ((k : Int) + 1) = ((k + 1 : Nat) : Int) := by rw [w64] <;> omega
    have bad : skipOk s.robot.joints.length x = false → (if (s.skips.all (skipOk s.robot.joints.length)) = false then (903 : Int) else 0) = 903 := fun h => by rw [if_pos (all_not hx h)]
    (conv => whnf)
    refine idx_and (by omega) (by simpa using hx) ?_
    (conv => whnf)
    refine call_i (scene_isLink s x.a) ?_
    (conv => whnf)
    refine ask_m (fun h => ?_) (fun h => ?_)
    · (conv => whnf)
      refine ret0 ?_
      exact ret_i (bad (by simp at h; simp [skipOk, h])).symm rfl
    have ha : linkOk s.robot.joints.length x.a = true := by simpa using h
    (conv => whnf)
    refine call_i (scene_isLink s x.b) ?_
    (conv => whnf)
    refine ask_m (fun h => ?_) (fun h => ?_)
    · (conv => whnf)
      refine ret0 ?_
      exact ret_i (bad (by simp at h; simp [skipOk, h])).symm rfl
    have hb : linkOk s.robot.joints.length x.b = true := by simpa using h
    (conv => whnf)
    exact ⟨k + 1, [], ⟨hlt, all_take hall hx (by simp [skipOk, ha, hb])⟩, by omega, ⟨⟨rfl, rfl, rfl, eqI hkk, trivial⟩, ⟨rfl, trivial⟩⟩⟩
  · have hk : k = s.skips.length := by simp at h; omega
    subst hk
    rw [List.take_length] at hall
    (conv => whnf)
    refine ret0 ?_
    exact ret_i (by rw [if_neg (by rw [hall]; simp)]) rfl
/-- a skip has the links, in either order -/
def isSkip (a b : Int) (k : Skip) : Bool := (decide (k.a = a) && decide (k.b = b)) || (decide (k.a = b) && decide (k.b = a))
def skipped (s : Scene) (a b : Int) : Bool := s.skips.any (isSkip a b)
theorem cmpSkip : cmpB Try.prog 8 Y.Skip = true ∧ Try.prog.eqGuardType Try.prog.depth Y.Skip = false := ⟨by kernel_rfl, by kernel_rfl⟩
end Go.Proofs.Ytopcjmipldkijaa

/- What valid robots and scenes are; rows. No program in sight. -/
namespace Go.Proofs.Ytopcjmipldkijaa
open Eng
set_option maxRecDepth 10000

theorem jat {js : List Joint} : ∀ {l : List Joint} {i k : Nat} {j : Joint}, jointsErr js i l = 0 → l[k]? = some j → jointErr js (i + k) j = 0
  | [], _, _, _, _, h => by simp at h
  | x :: l, i, k, j, h, hj => by
    rw [jointsErr] at h
    split at h
    · rename_i h0
      cases k with
      | zero => simp at hj; subst hj; exact h0
      | succ k =>
        have := jat (k := k) h (by simpa using hj)
        rw [← this]; congr 1; omega
    · contradiction
theorem robot_facts {r : Robot} (h : checkRobot r = 0) : r.joints.length ≤ 10 ∧ (∀ (k : Nat) (j : Joint), r.joints[k]? = some j → nameOk j.name = true ∧ bodyOk k j) ∧ r.masses.length ≤ 32 ∧ ∀ m ∈ r.masses, massOk r.joints.length m = true := by
  unfold checkRobot at h
  split at h
  · contradiction
  split at h
  · contradiction
  split at h
  · contradiction
  rename_i h1 h2 h3
  simp only [ne_eq, Decidable.not_not] at h2
  have h4 : r.masses.length ≤ 32 ∧ r.masses.all (massOk r.joints.length) = true := ⟨by omega, by
    cases hm : r.masses.all (massOk r.joints.length) with
    | true => rfl
    | false => exact absurd (.inr hm) h3⟩
  refine ⟨by omega, fun k j hj => ?_, h4.1, fun m hm => List.all_eq_true.1 h4.2 m hm⟩
  have := jat h2 hj
  rw [Nat.zero_add] at this
  obtain ⟨a, _, b⟩ := jointErr_inv this
  exact ⟨a, b⟩
theorem flat_take {α β : Type} (f : α → List β) {l : List α} {k : Nat} {x : α} (h : l[k]? = some x) : (l.take (k + 1)).flatMap f = (l.take k).flatMap f ++ f x := by
  rw [List.take_add_one, h, List.flatMap_append]; simp
theorem map_take1 {α β : Type} (f : α → β) {l : List α} {k : Nat} {x : α} (h : l[k]? = some x) : (l.take (k + 1)).map f = (l.take k).map f ++ [f x] := by
  rw [List.take_add_one, h, List.map_append]; rfl
theorem from1_bd {x m : Int} (h : from1 x m = true) : 1 ≤ x ∧ x ≤ m := by simpa [from1] using h
theorem rows_eq {t sz : Nat} {a b : List (List DV)} (h : a = b) : Box.rows t sz a = Box.rows t sz b := by rw [h]
theorem scene_facts {s : Scene} (h : checkScene s = 0) : checkRobot s.robot = 0 ∧ s.shapes.length ≤ 24 ∧ (∀ x ∈ s.shapes, linkOk s.robot.joints.length x.link = true ∧ 1 ≤ x.points.length ∧ x.points.length ≤ 8 ∧ (1 ≤ x.radius ∧ x.radius ≤ 1048576) ∧ ∀ p ∈ x.points, inV p 4194304 = true) ∧ s.skips.length ≤ 64 ∧ ∀ k ∈ s.skips, linkOk s.robot.joints.length k.a = true ∧ linkOk s.robot.joints.length k.b = true := by
  unfold checkScene at h
  split at h
  · contradiction
  split at h
  · contradiction
  split at h
  · contradiction
  split at h
  · contradiction
  split at h
  · contradiction
  rename_i h1 h2 h3 h4 h5
  simp only [ne_eq, Decidable.not_not] at h1 h3
  refine ⟨h1, by omega, fun x hx => ?_, by omega, fun k hk => ?_⟩
  · have : ∀ (l : List Shape), shapesErr s.robot.joints.length l = 0 → ∀ x ∈ l, shapeErr s.robot.joints.length x = 0 := by
      intro l
      induction l with
      | nil => intro _ x hx; cases hx
      | cons y l ih =>
        intro he x hx
        rw [shapesErr] at he
        split at he
        · rename_i h0
          rcases List.mem_cons.1 hx with rfl | hx
          · exact h0
          · exact ih he x hx
        · contradiction
    have hx := this s.shapes h3 x hx
    unfold shapeErr at hx
    split at hx
    · contradiction
    split at hx
    · contradiction
    rename_i q1 q2
    refine ⟨?_, by omega, by omega, by omega, fun p hp => ?_⟩
    · cases hl : linkOk s.robot.joints.length x.link with
      | true => rfl
      | false => exact absurd (.inl hl) q1
    · cases hq : x.points.all (inV · 4194304) with
      | true => exact List.all_eq_true.1 hq p hp
      | false => exact absurd hq q2
  · cases hq : s.skips.all fun k => linkOk s.robot.joints.length k.a && linkOk s.robot.joints.length k.b with
    | true => simpa using List.all_eq_true.1 hq k hk
    | false => exact absurd hq h5
theorem link_bd {n : Nat} {k : Int} (h : linkOk n k = true) : -1 ≤ k ∧ k < n := by simpa [linkOk] using h
end Go.Proofs.Ytopcjmipldkijaa

/- grasp.near, shape.Check, ref.CheckShape, config.Inside, ref.Inside. -/
namespace Go.Proofs.Ytopcjmipldkijaa
open Eng
set_option maxRecDepth 10000
attribute [local irreducible] FnOk loopW idxF retX arrF findF

theorem cmpVec : cmpB Try.prog 8 Y.Vec = true ∧ Try.prog.eqGuardType Try.prog.depth Y.Vec = false := ⟨by kernel_rfl, by kernel_rfl⟩
def clN (x : Int) : Int := min (max x (-2097152)) 2097152
def limC (v : Vec) (i : Nat) : List CV := [.dv (.int .i64 (if 0 < i then clN v.x else v.x)), .dv (.int .i64 (if 1 < i then clN v.y else v.y)), .dv (.int .i64 (if 2 < i then clN v.z else v.z))]
theorem near_is (v : Vec) : (decide (clN v.x = v.x) && (decide (clN v.y = v.y) && (decide (clN v.z = v.z) && true))) = nearB v := by
  have key : ∀ x : Int, decide (clN x = x) = (decide (-2097152 ≤ x) && decide (x ≤ 2097152)) := fun x => by
    rw [Bool.eq_iff_iff, decide_eq_true_eq, Bool.and_eq_true, decide_eq_true_eq, decide_eq_true_eq]
    unfold clN
    constructor <;> intro h <;> omega
  rw [key, key, key, nearB, inV, Bool.and_true, Bool.and_assoc (_ && _) (_ && _) (_ && _)]
theorem grasp_near (v : Vec) : FnOk Try.prog F.grasp_near [Ve v] [] 0 (Bo (nearB v)) [] 0 := by
  refine fnOk tab mix G.grasp_near rfl rfl (by kernel_rfl) rfl rfl ?_
  (conv => whnf)
  refine loop_intro (fun i : Nat => ⟨[(1, .one (.vptr 0 0)), (3, .one (.vptr 1 0)), (7, Ve v), (8, I i)], [(0, .vars Y.Vec [.dv (.int .i64 v.x), .dv (.int .i64 v.y), .dv (.int .i64 v.z)]), (1, .vars Y.Vec (limC v i))], 2⟩) (fun i => i ≤ 3) (fun i => 3 - i) [] 0 [] (Nat.zero_le _) ⟨⟨rfl, rfl, rfl, rfl, trivial⟩, ⟨rfl, rfl, trivial⟩⟩ ?_
  rintro i hi
  (conv => whnf)
  refine ask_m (fun h => ?_) (fun h => ?_)
  · have hi3 : i = 0 ∨ i = 1 ∨ i = 2 := by have := of_decide_eq_true h; omega
    rcases hi3 with rfl | rfl | rfl
    all_goals
      (conv => whnf)
      refine ⟨⟨by decide, by decide⟩, ?_⟩
      refine arr_at rfl rfl rfl ?_
      (conv => whnf)
      refine ⟨⟨by decide, by decide⟩, ?_⟩
      (conv => whnf)
    · exact ⟨1, [], by decide, by decide, ⟨⟨rfl, rfl, rfl, rfl, trivial⟩, ⟨rfl, rfl, trivial⟩⟩⟩
    · exact ⟨2, [], by decide, by decide, ⟨⟨rfl, rfl, rfl, rfl, trivial⟩, ⟨rfl, rfl, trivial⟩⟩⟩
    · exact ⟨3, [], by decide, by decide, ⟨⟨rfl, rfl, rfl, rfl, trivial⟩, ⟨rfl, rfl, trivial⟩⟩⟩
  · have hi3 : i = 3 := by have := of_decide_eq_false h; omega
    subst hi3
    (conv => whnf)
    refine ⟨cmpVec, ?_⟩
    (conv => whnf)
    (conv => whnf)
    refine ret0 ?_
    exact ret_b (near_is v) rfl
theorem shape_bad {s : Shape} (h : shapeB s = false) {b : Bool} (hb : b = false) : b = shapeB s := by rw [h, hb]
theorem shape_Check (s : Shape) (hp : s.points.length ≤ 4611686018427387904) : FnOk Try.prog F.shape_Check [Sh s] [] 0 (Bo (shapeB s)) [] 0 := by
  refine fnOk tab mix G.shape_Check rfl rfl (by kernel_rfl) rfl rfl ?_
  (conv => whnf)
  refine ask_m (fun h1 => ?_) (fun h1 => ?_)
  · have h1 := of_decide_eq_true h1
    (conv => whnf)
    refine ret0 ?_
    exact ret_b (by simp [shapeB]; omega) rfl
  have h1 := of_decide_eq_false h1
  (conv => whnf)
  refine ask_m (fun h2 => ?_) (fun h2 => ?_)
  · have h2 := of_decide_eq_true h2
    (conv => whnf)
    refine ret0 ?_
    exact ret_b (by simp [shapeB]; omega) rfl
  have h2 := of_decide_eq_false h2
  (conv => whnf)
  refine ask_m (fun h3 => ?_) (fun h3 => ?_)
  · have h3 := of_decide_eq_true h3
    simp only [List.length_map] at h3
    (conv => whnf)
    refine ret0 ?_
    exact ret_b (by simp [shapeB]; omega) rfl
  have h3 := of_decide_eq_false h3
  simp only [List.length_map] at h3
  (conv => whnf)
  refine ask_m (fun h4 => ?_) (fun h4 => ?_)
  · have h4 := of_decide_eq_true h4
    simp only [List.length_map] at h4
    (conv => whnf)
    refine ret0 ?_
    exact ret_b (by simp [shapeB]; omega) rfl
  have h4 := of_decide_eq_false h4
  simp only [List.length_map] at h4
  have e : shapeB s = s.points.all (inV · 4194304) := by
    rw [shapeB, decide_eq_true (show 1 ≤ s.radius by omega), decide_eq_true (show s.radius ≤ 1048576 by omega), decide_eq_true (show 1 ≤ s.points.length by omega), decide_eq_true (show s.points.length ≤ 8 by omega)]
    simp
  rw [e]
  (conv => whnf)
  refine loop_intro (fun k : Nat => ⟨[(28, .one (.dv (dVs s.points))), (29, I s.points.length), (30, I k)], [], 1⟩) (fun k => k ≤ s.points.length ∧ (s.points.take k).all (inV · 4194304) = true) (fun k => s.points.length - k) [] 0 [] ⟨Nat.zero_le _, rfl⟩ ⟨⟨rfl, eqI (by simp), rfl, trivial⟩, trivial⟩ ?_
  rintro k ⟨hk, hall⟩
  have hkk : IntKind.i64.wrap ((k : Int) + 1) = ((k + 1 : Nat) : Int) := by rw [w64] <;> omega
  (conv => whnf)
  refine ask_m (fun h => ?_) (fun h => ?_)
  · have hlt : k < s.points.length := by have := of_decide_eq_true h; omega
    obtain ⟨p, hpk⟩ : ∃ j, s.points[k]? = some j := ⟨_, List.getElem?_eq_getElem hlt⟩
    (conv => whnf)
    refine idx_and (by omega) (by simpa using hpk) ?_
    (conv => whnf)
    refine loop_intro (fun i : Nat => ⟨[(28, .one (.dv (dVs s.points))), (29, I s.points.length), (30, I k), (34, Ve p), (35, I i)], [], 2⟩) (fun i => i ≤ 3 ∧ ∀ c, c < i → inC (vAt p c) = true) (fun i => 3 - i) [] 0 [] ⟨Nat.zero_le _, fun i hi => by omega⟩ ⟨⟨rfl, rfl, rfl, rfl, rfl, trivial⟩, trivial⟩ ?_
    rintro i ⟨hi, halli⟩
    (conv => whnf)
    refine ask_m (fun h5 => ?_) (fun h5 => ?_)
    · have hlti : i < 3 := by have := of_decide_eq_true h5; omega
      have hii : IntKind.i64.wrap ((i : Int) + 1) = ((i + 1 : Nat) : Int) := by rw [w64] <;> omega
      have bad : inC (vAt p i) = false → s.points.all (inV · 4194304) = false := fun h => all_not (f := (inV · 4194304)) hpk (inV_at hlti h)
      have hc : ([.dv (.int .i64 p.x), .dv (.int .i64 p.y), .dv (.int .i64 p.z)] : List CV)[i]? = some (.dv (.int .i64 (vAt p i))) := by
        match i, hlti with
        | 0, _ => rfl
        | 1, _ => rfl
        | 2, _ => rfl
      (conv => whnf)
      refine ⟨⟨by omega, by omega⟩, ?_⟩
      refine arr_at rfl rfl (by simpa using hc) ?_
      (conv => whnf)
      refine ask_m (fun h6 => ?_) (fun h6 => ?_)
      · have h6 := of_decide_eq_true h6
        (conv => whnf)
        refine ret0 ?_
        exact ret_b (bad (by simp [inC]; omega)).symm rfl
      have h6 := of_decide_eq_false h6
      (conv => whnf)
      refine ask_m (fun h7 => ?_) (fun h7 => ?_)
      · have h7 := of_decide_eq_true h7
        (conv => whnf)
        refine ret0 ?_
        exact ret_b (bad (by simp [inC]; omega)).symm rfl
      have h7 := of_decide_eq_false h7
      (conv => whnf)
      refine ⟨i + 1, [], ⟨hlti, fun c hc => ?_⟩, by omega, ⟨⟨rfl, rfl, rfl, rfl, eqI hii, trivial⟩, trivial⟩⟩
      by_cases e : c = i
      · subst e; simp [inC]; omega
      · exact halli c (by omega)
    · have hi3 : i = 3 := by have := of_decide_eq_false h5; omega
      subst hi3
      (conv => whnf)
      exact ⟨k + 1, [], ⟨hlt, all_take hall hpk (inV_all halli)⟩, by omega, ⟨⟨rfl, rfl, eqI hkk, trivial⟩, trivial⟩⟩
  · have hk : k = s.points.length := by have := of_decide_eq_false h; omega
    subst hk
    rw [List.take_length] at hall
    (conv => whnf)
    refine ret0 ?_
    exact ret_b hall.symm rfl
theorem ref_CheckShape (s : Shape) (hp : s.points.length ≤ 4611686018427387904) : FnOk Try.prog F.ref10_CheckShape [Sh s] [] 0 (Bo (shapeB s)) [] 0 := by
  refine fnOk tab mix G.ref10_CheckShape rfl rfl (by kernel_rfl) rfl rfl ?_
  (conv => whnf)
  refine ask_m (fun h1 => ?_) (fun h1 => ?_)
  · have h1 := of_decide_eq_true h1
    (conv => whnf)
    refine ret0 ?_
    exact ret_b (by simp [shapeB]; omega) rfl
  have h1 := of_decide_eq_false h1
  (conv => whnf)
  refine ask_m (fun h2 => ?_) (fun h2 => ?_)
  · have h2 := of_decide_eq_true h2
    (conv => whnf)
    refine ret0 ?_
    exact ret_b (by simp [shapeB]; omega) rfl
  have h2 := of_decide_eq_false h2
  (conv => whnf)
  refine ask_m (fun h3 => ?_) (fun h3 => ?_)
  · have h3 := of_decide_eq_true h3
    simp only [List.length_map] at h3
    (conv => whnf)
    refine ret0 ?_
    exact ret_b (by simp [shapeB]; omega) rfl
  have h3 := of_decide_eq_false h3
  simp only [List.length_map] at h3
  (conv => whnf)
  refine ask_m (fun h4 => ?_) (fun h4 => ?_)
  · have h4 := of_decide_eq_true h4
    simp only [List.length_map] at h4
    (conv => whnf)
    refine ret0 ?_
    exact ret_b (by simp [shapeB]; omega) rfl
  have h4 := of_decide_eq_false h4
  simp only [List.length_map] at h4
  have e : shapeB s = s.points.all (inV · 4194304) := by
    rw [shapeB, decide_eq_true (show 1 ≤ s.radius by omega), decide_eq_true (show s.radius ≤ 1048576 by omega), decide_eq_true (show 1 ≤ s.points.length by omega), decide_eq_true (show s.points.length ≤ 8 by omega)]
    simp
  rw [e]
  (conv => whnf)
  refine loop_intro (fun k : Nat => ⟨[(1, .one (.vptr 0 0)), (3, I k)], [(0, .vars Y.Shape [.dv (.int .i64 s.link), .dv (.int .i64 s.radius), .dv (dVs s.points)])], 1⟩) (fun k => k ≤ s.points.length ∧ (s.points.take k).all (inV · 4194304) = true) (fun k => s.points.length - k) [] 0 [] ⟨Nat.zero_le _, rfl⟩ ⟨⟨rfl, rfl, trivial⟩, ⟨rfl, trivial⟩⟩ ?_
  rintro k ⟨hk, hall⟩
  have hkk : IntKind.i64.wrap ((k : Int) + 1) = ((k + 1 : Nat) : Int) := by rw [w64] <;> omega
  (conv => whnf)
  refine ask_m (fun h => ?_) (fun h => ?_)
  · have hlt : k < s.points.length := by have := of_decide_eq_true h; simp only [List.length_map] at this; omega
    obtain ⟨p, hpk⟩ : ∃ j, s.points[k]? = some j := ⟨_, List.getElem?_eq_getElem hlt⟩
    (conv => whnf)
    refine idx_and (by omega) (by simpa using hpk) ?_
    (conv => whnf)
    refine call_i (ref_Near p 4194304 (by decide) (by decide)) ?_
    (conv => whnf)
    refine ask_m (fun h6 => ?_) (fun h6 => ?_)
    · have h6 : inV p 4194304 = false := by simpa using h6
      (conv => whnf)
      refine ret0 ?_
      exact ret_b (all_not (f := (inV · 4194304)) hpk h6).symm rfl
    have h6 : inV p 4194304 = true := by simpa using h6
    (conv => whnf)
    exact ⟨k + 1, [], ⟨hlt, all_take hall hpk h6⟩, by omega, ⟨⟨rfl, eqI hkk, trivial⟩, ⟨rfl, trivial⟩⟩⟩
  · have hk : k = s.points.length := by have := of_decide_eq_false h; simp only [List.length_map] at this; omega
    subst hk
    rw [List.take_length] at hall
    (conv => whnf)
    refine ret0 ?_
    exact ret_b hall.symm rfl

/- a configuration within the limits -/
theorem within_len : ∀ {js : List Joint} {xs : List Int}, withinJ js xs = true → js.length = xs.length
  | [], [], _ => rfl
  | j :: js, x :: xs, h => by
    simp only [withinJ, Bool.and_eq_true] at h
    simp [within_len h.2]
theorem within_ne {js : List Joint} {xs : List Int} (h : xs.length ≠ js.length) : withinJ js xs = false := by
  cases hb : withinJ js xs with
  | false => rfl
  | true => exact absurd (within_len hb).symm h
theorem within_at {j : Joint} {x : Int} (h : linB j x = false) : ∀ {k : Nat} {js : List Joint} {xs : List Int}, js[k]? = some j → xs[k]? = some x → withinJ js xs = false := by
  intro k
  induction k with
  | zero =>
    intro js xs h1 h2
    match js, xs, h1, h2 with
    | a :: js, b :: xs, h1, h2 =>
      simp only [List.getElem?_cons_zero, Option.some.injEq] at h1 h2
      rw [withinJ, h1, h2, h]; rfl
  | succ k ih =>
    intro js xs h1 h2
    match js, xs, h1, h2 with
    | a :: js, b :: xs, h1, h2 =>
      rw [withinJ, ih (by simpa using h1) (by simpa using h2), Bool.and_false]
theorem within_all : ∀ {js : List Joint} {xs : List Int}, js.length = xs.length → (∀ (k : Nat) (j : Joint) (x : Int), js[k]? = some j → xs[k]? = some x → linB j x = true) → withinJ js xs = true
  | [], [], _, _ => rfl
  | j :: js, x :: xs, hl, h => by
    rw [withinJ, h 0 j x rfl rfl, within_all (by simpa using hl) (fun k j x h1 h2 => h (k + 1) j x (by simpa using h1) (by simpa using h2))]; rfl
theorem config_Inside_1 (j : Joint) (x : Int) : FnOk Try.prog F.config_Inside_1 [.agg [.dv (.str j.name), .dv (.int .i64 j.kind), .dv (.int .i64 j.parent), .dv (.int .i64 j.off.x), .dv (.int .i64 j.off.y), .dv (.int .i64 j.off.z), .dv (.int .i64 j.lo), .dv (.int .i64 j.hi), .dv (.int .i64 j.weight), .dv (.int .i64 j.speed), .dv (.int .i64 j.accel), .dv (.int .i64 j.torque)], I x] [] 0 (Bo (linB j x)) [] 0 := by
  refine fnOk tab mix G.config_Inside_1 rfl rfl (by kernel_rfl) rfl rfl ?_
  (conv => whnf)
  rw [linB]
  cases h : decide (j.lo ≤ x) with
  | true =>
    (conv => whnf)
    (conv => whnf)
    refine ret0 ?_
    exact ret_b (by simp) rfl
  | false =>
    (conv => whnf)
    (conv => whnf)
    refine ret0 ?_
    exact ret_b rfl rfl
theorem config_every (js : List Joint) (xs : List Int) (h1 : js.length ≤ 4611686018427387904) (_ : xs.length ≤ 4611686018427387904) : FnOk Try.prog F.config_every_api_Joint_int64 [.one (.dv (dJs js)), Li xs, .one (.fn F.config_Inside_1 [])] [] 0 (Bo (withinJ js xs)) [] 0 := by
  refine fnOk tab mix G.config_every_api_Joint_int64 rfl rfl (by kernel_rfl) rfl rfl ?_
  (conv => whnf)
  refine ask_m (fun h => ?_) (fun h => ?_)
  · have h : js.length ≠ xs.length := by simp at h; omega
    (conv => whnf)
    refine ret0 ?_
    exact ret_b (within_ne fun e => h e.symm).symm rfl
  have h : js.length = xs.length := by simp at h; omega
  (conv => whnf)
  refine loop_intro (fun k : Nat => ⟨[(1, Li xs), (2, .one (.fn F.config_Inside_1 [])), (14, .one (.dv (dJs js))), (15, I js.length), (16, I k)], [], 0⟩) (fun k => k ≤ js.length ∧ ∀ (i : Nat) (j : Joint) (x : Int), i < k → js[i]? = some j → xs[i]? = some x → linB j x = true) (fun k => js.length - k) [] 0 [] ⟨Nat.zero_le _, fun i _ _ hi => by omega⟩ ⟨⟨rfl, rfl, rfl, eqI (by simp), rfl, trivial⟩, trivial⟩ ?_
  rintro k ⟨hk, hall⟩
  have hkk : IntKind.i64.wrap ((k : Int) + 1) = ((k + 1 : Nat) : Int) := by rw [w64] <;> omega
  (conv => whnf)
  refine ask_m (fun h5 => ?_) (fun h5 => ?_)
  · have hlt : k < js.length := by have := of_decide_eq_true h5; omega
    obtain ⟨j, hj⟩ : ∃ j, js[k]? = some j := ⟨_, List.getElem?_eq_getElem hlt⟩
    obtain ⟨x, hx⟩ : ∃ x, xs[k]? = some x := ⟨_, List.getElem?_eq_getElem (by omega)⟩
    (conv => whnf)
    refine idx_and (by omega) (by simpa using hj) ?_
    (conv => whnf)
    refine idx_and (by omega) (by simpa using hx) ?_
    (conv => whnf)
    refine call_i (config_Inside_1 j x) ?_
    (conv => whnf)
    refine ask_m (fun h6 => ?_) (fun h6 => ?_)
    · have h6 : linB j x = false := by simpa using h6
      (conv => whnf)
      refine ret0 ?_
      exact ret_b (within_at h6 hj hx).symm rfl
    have h6 : linB j x = true := by simpa using h6
    (conv => whnf)
    refine ⟨k + 1, [], ⟨hlt, fun i j' x' hi hj' hx' => ?_⟩, by omega, ⟨⟨rfl, rfl, rfl, rfl, eqI hkk, trivial⟩, trivial⟩⟩
    by_cases e : i = k
    · subst e
      rw [hj] at hj'; rw [hx] at hx'
      injection hj' with hj'; injection hx' with hx'; subst hj' hx'
      exact h6
    · exact hall i j' x' (by omega) hj' hx'
  · have hk : k = js.length := by have := of_decide_eq_false h5; omega
    subst hk
    (conv => whnf)
    refine ret0 ?_
    exact ret_b (within_all h fun i j x h1 h2 => hall i j x (List.getElem?_eq_some_iff.1 h1).1 h1 h2).symm rfl
theorem config_Inside (r : Robot) (xs : List Int) (hj : r.joints.length ≤ 4611686018427387904) (hm : r.masses.length ≤ 4611686018427387904) (h2 : xs.length ≤ 4611686018427387904) : FnOk Try.prog F.config_Inside [Ro r, Li xs] [] 0 (Bo (insideB r xs)) [] 0 := by
  refine fnOk tab mix G.config_Inside rfl rfl (by kernel_rfl) rfl rfl ?_
  (conv => whnf)
  refine call_i (robot_Check r hj hm) ?_
  (conv => whnf)
  by_cases h : checkRobot r = 0
  · rw [h]
    (conv => whnf)
    refine call_i (config_every r.joints xs hj h2) ?_
    (conv => whnf)
    (conv => whnf)
    refine ret0 ?_
    exact ret_b (by rw [insideB, decide_eq_true h, Bool.true_and]) rfl
  · have e : (checkRobot r == 0) = false := by simpa using h
    rw [e]
    (conv => whnf)
    (conv => whnf)
    refine ret0 ?_
    exact ret_b (by rw [insideB, decide_eq_false h, Bool.false_and]) rfl
theorem ref_Inside (r : Robot) (xs : List Int) (hj : r.joints.length ≤ 4611686018427387904) (hm : r.masses.length ≤ 4611686018427387904) (_ : xs.length ≤ 4611686018427387904) : FnOk Try.prog F.ref10_Inside [Ro r, Li xs] [] 0 (Bo (insideB r xs)) [] 0 := by
  refine fnOk tab mix G.ref10_Inside rfl rfl (by kernel_rfl) rfl rfl ?_
  (conv => whnf)
  refine call_i (ref_CheckRobot r hj hm) ?_
  (conv => whnf)
  by_cases h : checkRobot r = 0
  case neg =>
    have e : (checkRobot r != 0) = true := by simpa using h
    rw [e]
    (conv => whnf)
    (conv => whnf)
    refine ret0 ?_
    exact ret_b (by rw [insideB, decide_eq_false h, Bool.false_and]) rfl
  have eI : insideB r xs = withinJ r.joints xs := by rw [insideB, decide_eq_true h, Bool.true_and]
  rw [eI, h]
  (conv => whnf)
  refine ask_m (fun h3 => ?_) (fun h3 => ?_)
  · have h3 : xs.length ≠ r.joints.length := by simp at h3; omega
    (conv => whnf)
    refine ret0 ?_
    exact ret_b (within_ne h3).symm rfl
  have h3 : r.joints.length = xs.length := by simp at h3; omega
  (conv => whnf)
  refine loop_intro (fun k : Nat => ⟨[(1, Li xs), (2, .one (.vptr 0 0)), (5, I k)], [(0, bRo r)], 1⟩) (fun k => k ≤ xs.length ∧ ∀ (i : Nat) (j : Joint) (x : Int), i < k → r.joints[i]? = some j → xs[i]? = some x → linB j x = true) (fun k => xs.length - k) [] 0 [] ⟨Nat.zero_le _, fun i _ _ hi => by omega⟩ ⟨⟨rfl, rfl, rfl, trivial⟩, ⟨rfl, trivial⟩⟩ ?_
  rintro k ⟨hk, hall⟩
  have hkk : IntKind.i64.wrap ((k : Int) + 1) = ((k + 1 : Nat) : Int) := by rw [w64] <;> omega
  (conv => whnf)
  refine ask_m (fun h5 => ?_) (fun h5 => ?_)
  · have hlt : k < xs.length := by have := of_decide_eq_true h5; simp only [List.length_map] at this; omega
    obtain ⟨j, hj'⟩ : ∃ j, r.joints[k]? = some j := ⟨_, List.getElem?_eq_getElem (by omega)⟩
    obtain ⟨x, hx⟩ : ∃ x, xs[k]? = some x := ⟨_, List.getElem?_eq_getElem hlt⟩
    (conv => whnf)
    refine idx_and (by omega) (by simpa using hx) ?_
    (conv => whnf)
    refine idx_and (by omega) (by simpa using hj') ?_
    (conv => whnf)
    refine ask_m (fun h6 => ?_) (fun h6 => ?_)
    · have h6 := of_decide_eq_true h6
      (conv => whnf)
      refine ret0 ?_
      exact ret_b (within_at (by simp [linB]; omega) hj' hx).symm rfl
    have h6 := of_decide_eq_false h6
    (conv => whnf)
    refine idx_and (by omega) (by simpa using hx) ?_
    (conv => whnf)
    refine idx_and (by omega) (by simpa using hj') ?_
    (conv => whnf)
    refine ask_m (fun h7 => ?_) (fun h7 => ?_)
    · have h7 := of_decide_eq_true h7
      (conv => whnf)
      refine ret0 ?_
      exact ret_b (within_at (by simp [linB]; omega) hj' hx).symm rfl
    have h7 := of_decide_eq_false h7
    (conv => whnf)
    refine ⟨k + 1, [], ⟨hlt, fun i j2 x2 hi hj2 hx2 => ?_⟩, by omega, ⟨⟨rfl, rfl, eqI hkk, trivial⟩, ⟨rfl, trivial⟩⟩⟩
    by_cases e : i = k
    · subst e
      rw [hj'] at hj2; rw [hx] at hx2
      injection hj2 with hj2; injection hx2 with hx2; subst hj2 hx2
      simp [linB]; omega
    · exact hall i j2 x2 (by omega) hj2 hx2
  · have hk : k = xs.length := by have := of_decide_eq_false h5; simp only [List.length_map] at this; omega
    subst hk
    (conv => whnf)
    refine ret0 ?_
    exact ret_b (within_all h3 fun i j x h1 h2 => hall i j x (List.getElem?_eq_some_iff.1 h2).1 h1 h2).symm rfl
end Go.Proofs.Ytopcjmipldkijaa

/- grasp.solid, ref.object, grasp.known, grasp.fitting, names of earlier objects. -/
namespace Go.Proofs.Ytopcjmipldkijaa
open Eng
set_option maxRecDepth 10000
attribute [local irreducible] FnOk loopW idxF retX arrF findF

abbrev bOb (o : TObj) : Box := .vars Y.Object [.dv (.str o.name), .dv (dShs o.shapes)]
abbrev Ob (o : TObj) : SV := .agg [.dv (.str o.name), .dv (dShs o.shapes)]
abbrev bSp (s : Shape) : Box := .vars Y.Shape [.dv (.int .i64 s.link), .dv (.int .i64 s.radius), .dv (dVs s.points)]
theorem oshape_no {s : Shape} {p : Vec} {c : Nat} (hp : s.points[c]? = some p) (h : nearB p = false) : oshapeB s = false := by rw [oshapeB, all_not hp h, Bool.and_false]
set_option maxHeartbeats 1000000 in
theorem grasp_solid (o : TObj) (ho : o.shapes.length ≤ 17592186044416 ∧ ∀ s ∈ o.shapes, s.points.length ≤ 17592186044416) : FnOk Try.prog F.grasp_solid [Ob o] [] 0 (Bo (solidB o)) [] 0 := by
  obtain ⟨o1, o2⟩ := ho
  have no : ∀ {k : Nat} {s : Shape}, o.shapes[k]? = some s → oshapeB s = false → solidB o = false := fun hs h => by rw [solidB, all_not hs h, Bool.false_and]
  refine fnOk tab mix G.grasp_solid rfl rfl (by kernel_rfl) rfl rfl ?_
  (conv => whnf)
  refine loop_intro (fun k : Nat => ⟨[(1, .one (.vptr 0 0)), (8, .one (.dv (dShs o.shapes))), (9, I o.shapes.length), (10, I k)], [(0, bOb o)], 1⟩) (fun k => k ≤ o.shapes.length ∧ (o.shapes.take k).all oshapeB = true) (fun k => o.shapes.length - k) [] 0 [] ⟨Nat.zero_le _, rfl⟩ ⟨⟨rfl, rfl, eqI (by simp), rfl, trivial⟩, ⟨rfl, trivial⟩⟩ ?_
  rintro k ⟨hk, hall⟩
  have hkk : IntKind.i64.wrap ((k : Int) + 1) = ((k + 1 : Nat) : Int) := by rw [w64] <;> omega
  (conv => whnf)
  refine ask_m (fun h => ?_) (fun h => ?_)
  · have hlt : k < o.shapes.length := by have := of_decide_eq_true h; omega
    obtain ⟨s, hs⟩ : ∃ j, o.shapes[k]? = some j := ⟨_, List.getElem?_eq_getElem hlt⟩
    have hsp := o2 s (List.mem_of_getElem? hs)
    (conv => whnf)
    refine idx_and (by omega) (by simpa using hs) ?_
    (conv => whnf)
    refine call_i (shape_Check s (by omega)) ?_
    (conv => whnf)
    refine ask_m (fun h1 => ?_) (fun h1 => ?_)
    · have h1 : shapeB s = false := by simpa using h1
      (conv => whnf)
      refine ret0 ?_
      exact ret_b (no hs (by rw [oshapeB, h1]; rfl)).symm rfl
    have h1 : shapeB s = true := by simpa using h1
    (conv => whnf)
    refine ask_m (fun h2 => ?_) (fun h2 => ?_)
    · have h2 : ¬ s.link = 0 := by simpa using h2
      (conv => whnf)
      refine ret0 ?_
      exact ret_b (no hs (by rw [oshapeB, decide_eq_false h2]; simp)).symm rfl
    have h2 : s.link = 0 := by simpa using h2
    (conv => whnf)
    refine loop_intro (fun c : Nat => ⟨[(1, .one (.vptr 0 0)), (8, .one (.dv (dShs o.shapes))), (9, I o.shapes.length), (10, I k), (23, .one (.dv (dVs s.points))), (24, I s.points.length), (25, I c)], [(0, bOb o)], 2⟩) (fun c => c ≤ s.points.length ∧ (s.points.take c).all nearB = true) (fun c => s.points.length - c) [] 0 [] ⟨Nat.zero_le _, rfl⟩ ⟨⟨rfl, rfl, rfl, rfl, rfl, eqI (by simp), rfl, trivial⟩, ⟨rfl, trivial⟩⟩ ?_
    rintro c ⟨hc, hall2⟩
    have hcc : IntKind.i64.wrap ((c : Int) + 1) = ((c + 1 : Nat) : Int) := by rw [w64] <;> omega
    (conv => whnf)
    refine ask_m (fun h5 => ?_) (fun h5 => ?_)
    · have hlt2 : c < s.points.length := by have := of_decide_eq_true h5; omega
      obtain ⟨p, hp⟩ : ∃ j, s.points[c]? = some j := ⟨_, List.getElem?_eq_getElem hlt2⟩
      (conv => whnf)
      refine idx_and (by omega) (by simpa using hp) ?_
      (conv => whnf)
      refine call_i (grasp_near p) ?_
      (conv => whnf)
      refine ask_m (fun h6 => ?_) (fun h6 => ?_)
      · have h6 : nearB p = false := by simpa using h6
        (conv => whnf)
        refine ret0 ?_
        exact ret_b (no hs (oshape_no hp h6)).symm rfl
      have h6 : nearB p = true := by simpa using h6
      (conv => whnf)
      exact ⟨c + 1, [], ⟨hlt2, all_take hall2 hp h6⟩, by omega, ⟨⟨rfl, rfl, rfl, rfl, rfl, rfl, eqI hcc, trivial⟩, ⟨rfl, trivial⟩⟩⟩
    · have hc : c = s.points.length := by have := of_decide_eq_false h5; omega
      subst hc
      rw [List.take_length] at hall2
      (conv => whnf)
      exact ⟨k + 1, [], ⟨hlt, all_take hall hs (by rw [oshapeB, h1, decide_eq_true h2, hall2]; rfl)⟩, by omega, ⟨⟨rfl, rfl, rfl, eqI hkk, trivial⟩, ⟨rfl, trivial⟩⟩⟩
  · have hk : k = o.shapes.length := by have := of_decide_eq_false h; omega
    subst hk
    rw [List.take_length] at hall
    (conv => whnf)
    (conv => whnf)
    refine ret0 ?_
    exact ret_b (by rw [solidB, hall]; simp) rfl
set_option maxHeartbeats 1000000 in
theorem ref_object (o : TObj) (ho : o.shapes.length ≤ 17592186044416 ∧ ∀ s ∈ o.shapes, s.points.length ≤ 17592186044416) : FnOk Try.prog F.ref32_object [Ob o] [] 0 (Bo (nameOk o.name && solidB o)) [] 0 := by
  obtain ⟨o1, o2⟩ := ho
  have no : ∀ {k : Nat} {s : Shape}, o.shapes[k]? = some s → oshapeB s = false → (nameOk o.name && solidB o) = false := fun hs h => by rw [solidB, all_not hs h, Bool.false_and, Bool.and_false]
  refine fnOk tab mix G.ref32_object rfl rfl (by kernel_rfl) rfl rfl ?_
  (conv => whnf)
  refine call_i (ref_Name o.name) ?_
  (conv => whnf)
  refine ask_m (fun h0 => ?_) (fun h0 => ?_)
  · have h0 : nameOk o.name = false := by simpa using h0
    (conv => whnf)
    refine ret0 ?_
    exact ret_b (by rw [h0]; rfl) rfl
  have h0 : nameOk o.name = true := by simpa using h0
  (conv => whnf)
  refine ask_m (fun h9 => ?_) (fun h9 => ?_)
  · have h9 : o.shapes.length = 0 := by simp at h9; simp [h9]
    (conv => whnf)
    refine ret0 ?_
    exact ret_b (by rw [solidB, h9]; simp) rfl
  have h9 : 0 < o.shapes.length := by simp at h9; exact List.length_pos_iff.2 h9
  (conv => whnf)
  refine loop_intro (fun k : Nat => ⟨[(1, .one (.vptr 0 0)), (3, I k)], [(0, bOb o)], 1⟩) (fun k => k ≤ o.shapes.length ∧ (o.shapes.take k).all oshapeB = true) (fun k => o.shapes.length - k) [] 0 [] ⟨Nat.zero_le _, rfl⟩ ⟨⟨rfl, rfl, trivial⟩, ⟨rfl, trivial⟩⟩ ?_
  rintro k ⟨hk, hall⟩
  have hkk : IntKind.i64.wrap ((k : Int) + 1) = ((k + 1 : Nat) : Int) := by rw [w64] <;> omega
  (conv => whnf)
  refine ask_m (fun h => ?_) (fun h => ?_)
  · have hlt : k < o.shapes.length := by have := of_decide_eq_true h; simp only [List.length_map] at this; omega
    obtain ⟨s, hs⟩ : ∃ j, o.shapes[k]? = some j := ⟨_, List.getElem?_eq_getElem hlt⟩
    have hsp := o2 s (List.mem_of_getElem? hs)
    (conv => whnf)
    refine idx_and (by omega) (by simpa using hs) ?_
    (conv => whnf)
    refine call_i (ref_CheckShape s (by omega)) ?_
    (conv => whnf)
    refine ask_m (fun h1 => ?_) (fun h1 => ?_)
    · have h1 : shapeB s = false := by simpa using h1
      (conv => whnf)
      refine ret0 ?_
      exact ret_b (no hs (by rw [oshapeB, h1]; rfl)).symm rfl
    have h1 : shapeB s = true := by simpa using h1
    (conv => whnf)
    refine ask_m (fun h2 => ?_) (fun h2 => ?_)
    · have h2 : ¬ s.link = 0 := by simpa using h2
      (conv => whnf)
      refine ret0 ?_
      exact ret_b (no hs (by rw [oshapeB, decide_eq_false h2]; simp)).symm rfl
    have h2 : s.link = 0 := by simpa using h2
    (conv => whnf)
    refine loop_intro (fun c : Nat => ⟨[(1, .one (.vptr 0 0)), (3, I k), (4, .one (.vptr 1 0)), (5, I c)], [(0, bOb o), (1, bSp s)], 2⟩) (fun c => c ≤ s.points.length ∧ (s.points.take c).all nearB = true) (fun c => s.points.length - c) [] 0 [] ⟨Nat.zero_le _, rfl⟩ ⟨⟨rfl, rfl, rfl, rfl, trivial⟩, ⟨rfl, rfl, trivial⟩⟩ ?_
    rintro c ⟨hc, hall2⟩
    have hcc : IntKind.i64.wrap ((c : Int) + 1) = ((c + 1 : Nat) : Int) := by rw [w64] <;> omega
    (conv => whnf)
    refine ask_m (fun h5 => ?_) (fun h5 => ?_)
    · have hlt2 : c < s.points.length := by have := of_decide_eq_true h5; simp only [List.length_map] at this; omega
      obtain ⟨p, hp⟩ : ∃ j, s.points[c]? = some j := ⟨_, List.getElem?_eq_getElem hlt2⟩
      (conv => whnf)
      refine idx_and (by omega) (by simpa using hp) ?_
      (conv => whnf)
      refine call_i (ref_Near p 2097152 (by decide) (by decide)) ?_
      (conv => whnf)
      refine ask_m (fun h6 => ?_) (fun h6 => ?_)
      · have h6 : nearB p = false := by simpa [nearB] using h6
        (conv => whnf)
        refine ret0 ?_
        exact ret_b (no hs (oshape_no hp h6)).symm rfl
      have h6 : nearB p = true := by simpa [nearB] using h6
      (conv => whnf)
      exact ⟨c + 1, [], ⟨hlt2, all_take hall2 hp h6⟩, by omega, ⟨⟨rfl, rfl, rfl, eqI hcc, trivial⟩, ⟨rfl, rfl, trivial⟩⟩⟩
    · have hc : c = s.points.length := by have := of_decide_eq_false h5; simp only [List.length_map] at this; omega
      subst hc
      rw [List.take_length] at hall2
      (conv => whnf)
      exact ⟨k + 1, [], ⟨hlt, all_take hall hs (by rw [oshapeB, h1, decide_eq_true h2, hall2]; rfl)⟩, by omega, ⟨⟨rfl, eqI hkk, trivial⟩, ⟨rfl, trivial⟩⟩⟩
  · have hk : k = o.shapes.length := by have := of_decide_eq_false h; simp only [List.length_map] at this; omega
    subst hk
    rw [List.take_length] at hall
    (conv => whnf)
    (conv => whnf)
    refine ret0 ?_
    exact ret_b (by rw [h0, solidB, hall, decide_eq_true h9]; rfl) rfl
theorem grasp_known (w : TWork) (h p : Int) : FnOk Try.prog F.grasp_known [Wk w, I h, I p] [] 0 (Bo (knownB w h p)) [] 0 := by
  refine fnOk tab mix G.grasp_known rfl rfl (by kernel_rfl) rfl rfl ?_
  (conv => whnf)
  refine ask_m (fun h1 => ?_) (fun h1 => ?_)
  case refine_2 =>
    have h1 := of_decide_eq_false h1
    (conv => whnf)
    refine ret0 ?_
    exact ret_b (by simp [knownB]; omega) rfl
  have h1 := of_decide_eq_true h1
  (conv => whnf)
  refine ask_m (fun h2 => ?_) (fun h2 => ?_)
  case refine_2 =>
    have h2 := of_decide_eq_false h2
    simp only [List.length_map] at h2
    (conv => whnf)
    refine ret0 ?_
    exact ret_b (by simp [knownB]; omega) rfl
  have h2 := of_decide_eq_true h2
  simp only [List.length_map] at h2
  (conv => whnf)
  refine ask_m (fun h3 => ?_) (fun h3 => ?_)
  case refine_2 =>
    have h3 := of_decide_eq_false h3
    (conv => whnf)
    refine ret0 ?_
    exact ret_b (by simp [knownB]; omega) rfl
  have h3 := of_decide_eq_true h3
  (conv => whnf)
  (conv => whnf)
  refine ret0 ?_
  exact ret_b (by rw [knownB, decide_eq_true h1, decide_eq_true h2, decide_eq_true h3]; simp) rfl

/- the loops of fitting -/
theorem sizes_no {w : TWork} (h : sizesB w = false) : fitB w = false := by rw [fitB, h]; rfl
set_option maxHeartbeats 2000000 in
theorem grasp_fitting (w : TWork) (hm : mild w) : FnOk Try.prog F.grasp_fitting [Wk w] [] 0 (Bo (fitB w)) [] 0 := by
  obtain ⟨m1, m2, m3, m4, m5, m6, m7⟩ := hm
  refine fnOk tab mix G.grasp_fitting rfl rfl (by kernel_rfl) rfl rfl ?_
  (conv => whnf)
  refine ask_m (fun h1 => ?_) (fun h1 => ?_)
  · have h1 := of_decide_eq_true h1
    simp only [List.length_map] at h1
    (conv => whnf)
    refine ret0 ?_
    exact ret_b (sizes_no (by simp [sizesB]; omega)).symm rfl
  have h1 := of_decide_eq_false h1
  simp only [List.length_map] at h1
  (conv => whnf)
  refine ask_m (fun h2 => ?_) (fun h2 => ?_)
  · have h2 := of_decide_eq_true h2
    simp only [List.length_map] at h2
    (conv => whnf)
    refine ret0 ?_
    exact ret_b (sizes_no (by simp [sizesB]; omega)).symm rfl
  have h2 := of_decide_eq_false h2
  simp only [List.length_map] at h2
  (conv => whnf)
  refine ask_m (fun h3 => ?_) (fun h3 => ?_)
  · have h3 := of_decide_eq_true h3
    simp only [List.length_map] at h3
    (conv => whnf)
    refine ret0 ?_
    exact ret_b (sizes_no (by simp [sizesB]; omega)).symm rfl
  have h3 := of_decide_eq_false h3
  simp only [List.length_map] at h3
  (conv => whnf)
  refine ask_m (fun h4 => ?_) (fun h4 => ?_)
  · have h4 := of_decide_eq_true h4
    simp only [List.length_map] at h4
    (conv => whnf)
    refine ret0 ?_
    exact ret_b (sizes_no (by simp [sizesB]; omega)).symm rfl
  have h4 := of_decide_eq_false h4
  simp only [List.length_map] at h4
  (conv => whnf)
  refine ask_m (fun h5 => ?_) (fun h5 => ?_)
  · have h5 := of_decide_eq_true h5
    (conv => whnf)
    refine ret0 ?_
    exact ret_b (sizes_no (by simp [sizesB]; omega)).symm rfl
  have h5 := of_decide_eq_false h5
  (conv => whnf)
  refine ask_m (fun h6 => ?_) (fun h6 => ?_)
  · have h6 := of_decide_eq_true h6
    (conv => whnf)
    refine ret0 ?_
    exact ret_b (sizes_no (by simp [sizesB]; omega)).symm rfl
  have h6 := of_decide_eq_false h6
  have hs : sizesB w = true := by simp [sizesB]; omega
  have e : fitB w = (w.places.all nearB && (w.hands.all (handB w) && w.grips.all (gripB w))) := by rw [fitB, hs, Bool.true_and, Bool.and_assoc]
  rw [e]
  (conv => whnf)
  refine loop_intro (fun k : Nat => ⟨[(1, .one (.vptr 0 0)), (40, .one (.dv (dVs w.places))), (41, I w.places.length), (42, I k)], [(0, bWk w)], 1⟩) (fun k => k ≤ w.places.length ∧ (w.places.take k).all nearB = true) (fun k => w.places.length - k) [] 0 [] ⟨Nat.zero_le _, rfl⟩ ⟨⟨rfl, rfl, eqI (by simp), rfl, trivial⟩, ⟨rfl, trivial⟩⟩ ?_
  rintro k ⟨hk, hall⟩
  have hkk : IntKind.i64.wrap ((k : Int) + 1) = ((k + 1 : Nat) : Int) := by rw [w64] <;> omega
  (conv => whnf)
  refine ask_m (fun h => ?_) (fun h => ?_)
  · have hlt : k < w.places.length := by have := of_decide_eq_true h; omega
    obtain ⟨p, hp⟩ : ∃ j, w.places[k]? = some j := ⟨_, List.getElem?_eq_getElem hlt⟩
    (conv => whnf)
    refine idx_and (by omega) (by simpa using hp) ?_
    (conv => whnf)
    refine call_i (grasp_near p) ?_
    (conv => whnf)
    refine ask_m (fun h7 => ?_) (fun h7 => ?_)
    · have h7 : nearB p = false := by simpa using h7
      (conv => whnf)
      refine ret0 ?_
      exact ret_b (by rw [all_not hp h7]; rfl) rfl
    have h7 : nearB p = true := by simpa using h7
    (conv => whnf)
    exact ⟨k + 1, [], ⟨hlt, all_take hall hp h7⟩, by omega, ⟨⟨rfl, rfl, rfl, eqI hkk, trivial⟩, ⟨rfl, trivial⟩⟩⟩
  have hk : k = w.places.length := by have := of_decide_eq_false h; omega
  subst hk
  rw [List.take_length] at hall
  rw [hall, Bool.true_and]
  clear hall h hkk e
  (conv => whnf)
  refine loop_intro (fun k : Nat => ⟨[(1, .one (.vptr 0 0)), (51, .one (.dv (dHs w.hands))), (52, I w.hands.length), (53, I k)], [(0, bWk w)], 1⟩) (fun k => k ≤ w.hands.length ∧ (w.hands.take k).all (handB w) = true) (fun k => w.hands.length - k) [] 0 [] ⟨Nat.zero_le _, rfl⟩ ⟨⟨rfl, rfl, eqI (by simp), rfl, trivial⟩, ⟨rfl, trivial⟩⟩ ?_
  rintro k ⟨hk, hall⟩
  have hkk : IntKind.i64.wrap ((k : Int) + 1) = ((k + 1 : Nat) : Int) := by rw [w64] <;> omega
  (conv => whnf)
  refine ask_m (fun h => ?_) (fun h => ?_)
  · have hlt : k < w.hands.length := by have := of_decide_eq_true h; omega
    obtain ⟨p, hp⟩ : ∃ j, w.hands[k]? = some j := ⟨_, List.getElem?_eq_getElem hlt⟩
    (conv => whnf)
    refine idx_and (by omega) (by simpa using hp) ?_
    (conv => whnf)
    refine ask_m (fun h7 => ?_) (fun h7 => ?_)
    · have h7 := of_decide_eq_true h7
      (conv => whnf)
      refine ret0 ?_
      exact ret_b (by rw [all_not hp (f := handB w) (by simp [handB]; omega)]; rfl) rfl
    have h7 := of_decide_eq_false h7
    (conv => whnf)
    refine ask_m (fun h8 => ?_) (fun h8 => ?_)
    · have h8 := of_decide_eq_true h8
      simp only [List.length_map] at h8
      (conv => whnf)
      refine ret0 ?_
      exact ret_b (by rw [all_not hp (f := handB w) (by simp [handB]; omega)]; rfl) rfl
    have h8 := of_decide_eq_false h8
    simp only [List.length_map] at h8
    (conv => whnf)
    refine call_i (grasp_near p.off) ?_
    (conv => whnf)
    refine ask_m (fun h9 => ?_) (fun h9 => ?_)
    · have h9 : nearB p.off = false := by simpa using h9
      (conv => whnf)
      refine ret0 ?_
      exact ret_b (by rw [all_not hp (f := handB w) (by simp [handB, h9])]; rfl) rfl
    have h9 : nearB p.off = true := by simpa using h9
    (conv => whnf)
    exact ⟨k + 1, [], ⟨hlt, all_take hall hp (by simp [handB, h9]; omega)⟩, by omega, ⟨⟨rfl, rfl, rfl, eqI hkk, trivial⟩, ⟨rfl, trivial⟩⟩⟩
  have hk : k = w.hands.length := by have := of_decide_eq_false h; omega
  subst hk
  rw [List.take_length] at hall
  rw [hall, Bool.true_and]
  clear hall h hkk
  (conv => whnf)
  refine loop_intro (fun k : Nat => ⟨[(1, .one (.vptr 0 0)), (78, .one (.dv (dGs w.grips))), (79, I w.grips.length), (80, I k)], [(0, bWk w)], 1⟩) (fun k => k ≤ w.grips.length ∧ (w.grips.take k).all (gripB w) = true) (fun k => w.grips.length - k) [] 0 [] ⟨Nat.zero_le _, rfl⟩ ⟨⟨rfl, rfl, eqI (by simp), rfl, trivial⟩, ⟨rfl, trivial⟩⟩ ?_
  rintro k ⟨hk, hall⟩
  have hkk : IntKind.i64.wrap ((k : Int) + 1) = ((k + 1 : Nat) : Int) := by rw [w64] <;> omega
  (conv => whnf)
  refine ask_m (fun h => ?_) (fun h => ?_)
  · have hlt : k < w.grips.length := by have := of_decide_eq_true h; omega
    obtain ⟨p, hp⟩ : ∃ j, w.grips[k]? = some j := ⟨_, List.getElem?_eq_getElem hlt⟩
    (conv => whnf)
    refine idx_and (by omega) (by simpa using hp) ?_
    (conv => whnf)
    refine call_i (grasp_known w p.hand p.place) ?_
    (conv => whnf)
    refine ask_m (fun h7 => ?_) (fun h7 => ?_)
    · have h7 : knownB w p.hand p.place = false := by simpa using h7
      (conv => whnf)
      refine ret0 ?_
      exact ret_b (by rw [all_not hp (f := gripB w) (by simp [gripB, h7])]) rfl
    have h7 : knownB w p.hand p.place = true := by simpa using h7
    (conv => whnf)
    refine call_i (config_Inside w.scene.robot p.at_ m1.1 m1.2.1 (m7 p (List.mem_of_getElem? hp))) ?_
    (conv => whnf)
    refine ask_m (fun h8 => ?_) (fun h8 => ?_)
    · have h8 : insideB w.scene.robot p.at_ = false := by simpa using h8
      (conv => whnf)
      refine ret0 ?_
      exact ret_b (by rw [all_not hp (f := gripB w) (by simp [gripB, h8])]) rfl
    have h8 : insideB w.scene.robot p.at_ = true := by simpa using h8
    (conv => whnf)
    exact ⟨k + 1, [], ⟨hlt, all_take hall hp (by rw [gripB, h7, h8]; rfl)⟩, by omega, ⟨⟨rfl, rfl, rfl, eqI hkk, trivial⟩, ⟨rfl, trivial⟩⟩⟩
  have hk : k = w.grips.length := by have := of_decide_eq_false h; omega
  subst hk
  rw [List.take_length] at hall
  (conv => whnf)
  (conv => whnf)
  refine ret0 ?_
  exact ret_b hall.symm rfl
end Go.Proofs.Ytopcjmipldkijaa

/- grasp.Check, ref.CheckWork, grasp.Valid, ref.ValidMode. -/
namespace Go.Proofs.Ytopcjmipldkijaa
open Eng
set_option maxRecDepth 10000
attribute [local irreducible] FnOk loopW idxF retX arrF findF

def firstP {α : Type} (p : α → Bool) : List α → Nat → Int
  | [], _ => -1
  | a :: l, k => if p a then k else firstP p l (k + 1)
theorem firstP_any {α : Type} (p : α → Bool) : ∀ (l : List α) (k : Nat), decide (0 ≤ firstP p l k) = l.any p
  | [], k => by simp [firstP]
  | a :: l, k => by
    unfold firstP
    split
    · rename_i h; simp [h]
    · rename_i h; rw [firstP_any p l (k + 1)]; simp [h]
theorem int_Index (l : List Int) (x : Int) (hl : l.length ≤ 4611686018427387904) : FnOk Try.prog F.slices_Index_sint_int [Li l, I x] [] 0 (I (idxI x l 0)) [] 0 := by
  refine fnOk tab mix G.slices_Index_sint_int rfl rfl (by kernel_rfl) rfl rfl ?_
  (conv => whnf)
  refine loop_intro (fun k : Nat => ⟨[(0, Li l), (1, I x), (7, I l.length), (8, I k)], [], 0⟩) (fun k => k ≤ l.length ∧ idxI x (l.drop k) k = idxI x l 0) (fun k => l.length - k) [] 0 [] ⟨Nat.zero_le _, rfl⟩ ⟨⟨rfl, rfl, eqI (by simp), rfl, trivial⟩, trivial⟩ ?_
  rintro k ⟨hk, hf⟩
  have hkk : IntKind.i64.wrap ((k : Int) + 1) = ((k + 1 : Nat) : Int) := by rw [w64] <;> omega
  (conv => whnf)
  refine ask_m (fun h => ?_) (fun h => ?_)
  · have hlt : k < l.length := by have := of_decide_eq_true h; omega
    obtain ⟨y, hy⟩ : ∃ j, l[k]? = some j := ⟨_, List.getElem?_eq_getElem hlt⟩
    rw [drop_cons hy, idxI] at hf
    (conv => whnf)
    refine idx_and (by omega) (by simpa using hy) ?_
    (conv => whnf)
    refine ask_m (fun h1 => ?_) (fun h1 => ?_)
    · have h1 : x = y := by simpa using h1
      rw [if_pos h1.symm] at hf
      (conv => whnf)
      refine ret0 ?_
      exact ret_i hf rfl
    · have h1 : ¬ x = y := by simpa using h1
      rw [if_neg (fun e => h1 e.symm)] at hf
      (conv => whnf)
      exact ⟨k + 1, [], ⟨hlt, hf⟩, by omega, ⟨⟨rfl, rfl, rfl, eqI hkk, trivial⟩, trivial⟩⟩
  · have hk : k = l.length := by have := of_decide_eq_false h; omega
    subst hk
    rw [List.drop_length, idxI] at hf
    (conv => whnf)
    refine ret0 ?_
    exact ret_i hf rfl
theorem int_Contains (l : List Int) (x : Int) (hl : l.length ≤ 4611686018427387904) : FnOk Try.prog F.slices_Contains_sint_int [Li l, I x] [] 0 (Bo (l.any fun y => decide (y = x))) [] 0 := by
  have e : decide (0 ≤ idxI x l 0) = l.any fun y => decide (y = x) := by
    rw [Bool.eq_iff_iff, decide_eq_true_eq, List.any_eq_true]
    rw [show idxI x l 0 = objAt l x from rfl, objAt_has]
    constructor
    · intro h; exact ⟨x, h, by simp⟩
    · rintro ⟨y, hy, e⟩; exact of_decide_eq_true e ▸ hy
  refine fnOk tab mix G.slices_Contains_sint_int rfl rfl (by kernel_rfl) rfl rfl ?_
  (conv => whnf)
  refine call_i (int_Index l x hl) ?_
  (conv => whnf)
  (conv => whnf)
  refine ret0 ?_
  exact ret_b e rfl
abbrev cOb (o : TObj) : List CV := [.dv (.str o.name), .dv (dShs o.shapes)]
theorem grasp_Check_1 (o e : TObj) : FnOk Try.prog F.grasp_Check_1 [Ob e, .one (.vptr 0 0)] [(0, bOb o)] 1 (Bo (decide (e.name = o.name))) [(0, bOb o)] 1 := by
  refine fnOk tab mix G.grasp_Check_1 rfl rfl (by kernel_rfl) rfl rfl ?_
  (conv => whnf)
  (conv => whnf)
  refine ret0 ?_
  exact ⟨[], ⟨rfl, trivial⟩, ⟨rfl, trivial⟩⟩
abbrev FnO : SV := .one (.fn F.grasp_Check_1 [(0, 0)])
theorem obj_IndexFunc (o : TObj) (l : List TObj) (hl : l.length ≤ 4611686018427387904) : FnOk Try.prog F.slices_IndexFunc_sapi_Object_api_Object [.one (.dv (dOs l)), FnO] [(0, bOb o)] 1 (I (firstP (fun e => decide (e.name = o.name)) l 0)) [(0, bOb o)] 1 := by
  refine fnOk tab mix G.slices_IndexFunc_sapi_Object_api_Object rfl rfl (by kernel_rfl) rfl rfl ?_
  (conv => whnf)
  refine loop_intro (fun k : Nat => ⟨[(0, .one (.dv (dOs l))), (1, FnO), (7, I l.length), (8, I k)], [(0, bOb o)], 1⟩) (fun k => k ≤ l.length ∧ firstP (fun e => decide (e.name = o.name)) (l.drop k) k = firstP (fun e => decide (e.name = o.name)) l 0) (fun k => l.length - k) [] 0 [] ⟨Nat.zero_le _, rfl⟩ ⟨⟨rfl, rfl, eqI (by simp), rfl, trivial⟩, ⟨rfl, trivial⟩⟩ ?_
  rintro k ⟨hk, hf⟩
  have hkk : IntKind.i64.wrap ((k : Int) + 1) = ((k + 1 : Nat) : Int) := by rw [w64] <;> omega
  (conv => whnf)
  refine ask_m (fun h => ?_) (fun h => ?_)
  · have hlt : k < l.length := by have := of_decide_eq_true h; omega
    obtain ⟨m, hm⟩ : ∃ j, l[k]? = some j := ⟨_, List.getElem?_eq_getElem hlt⟩
    rw [drop_cons hm, firstP] at hf
    (conv => whnf)
    refine idx_and (by omega) (by simpa using hm) ?_
    (conv => whnf)
    refine call_i (grasp_Check_1 o m) ?_
    (conv => whnf)
    refine ask_m (fun h => ?_) (fun h => ?_)
    · rw [if_pos h] at hf
      rw [← hf]
      (conv => whnf)
      refine ret0 ?_
      exact ⟨[], ⟨rfl, trivial⟩, ⟨rfl, trivial⟩⟩
    · rw [if_neg (by rw [h]; decide)] at hf
      (conv => whnf)
      exact ⟨k + 1, [], ⟨hlt, hf⟩, by omega, ⟨⟨rfl, rfl, rfl, eqI hkk, trivial⟩, ⟨rfl, trivial⟩⟩⟩
  · have hk : k = l.length := by have := of_decide_eq_false h; omega
    subst hk
    rw [List.drop_length, firstP] at hf
    rw [← hf]
    (conv => whnf)
    refine ret0 ?_
    exact ⟨[], ⟨rfl, trivial⟩, ⟨rfl, trivial⟩⟩
theorem obj_ContainsFunc (o : TObj) (l : List TObj) (hl : l.length ≤ 4611686018427387904) : FnOk Try.prog F.slices_ContainsFunc_sapi_Object_api_Object [.one (.dv (dOs l)), FnO] [(0, bOb o)] 1 (Bo (l.any fun e => decide (e.name = o.name))) [(0, bOb o)] 1 := by
  refine fnOk tab mix G.slices_ContainsFunc_sapi_Object_api_Object rfl rfl (by kernel_rfl) rfl rfl ?_
  (conv => whnf)
  rw [← firstP_any (fun e => decide (e.name = o.name)) l 0]
  (conv => whnf)
  refine call_i (obj_IndexFunc o l hl) ?_
  (conv => whnf)
  (conv => whnf)
  refine ret0 ?_
  exact ⟨[], ⟨rfl, trivial⟩, ⟨rfl, trivial⟩⟩
theorem count_take {l : List TObj} {k : Nat} {o : TObj} (h : l[k]? = some o) : countOf (l.take (k + 1)) = countOf (l.take k) + o.shapes.length := by
  rw [countOf, map_take1 _ h, List.sum_append, ← countOf]; simp
theorem count_bd {l : List TObj} (h : ∀ o ∈ l, o.shapes.length ≤ 17592186044416) : ∀ k, countOf (l.take k) ≤ k * 17592186044416 := by
  intro k
  induction k with
  | zero => simp [countOf]
  | succ k ih =>
    by_cases hk : k < l.length
    · obtain ⟨o, ho⟩ : ∃ j, l[k]? = some j := ⟨_, List.getElem?_eq_getElem hk⟩
      rw [count_take ho, Nat.succ_mul]
      exact Nat.add_le_add ih (h o (List.mem_of_getElem? ho))
    · rw [List.take_of_length_le (by omega)] at ih ⊢
      exact Nat.le_trans ih (Nat.mul_le_mul_right _ (Nat.le_succ _))
theorem objB_no1 {pre : List TObj} {o : TObj} (h : nameOk o.name = false) : objB pre o = false := by rw [objB, h]; rfl
theorem objB_no2 {pre : List TObj} {o : TObj} (h : (pre.any fun e => decide (e.name = o.name)) = true) : objB pre o = false := by rw [objB, h]; simp
theorem objB_no3 {pre : List TObj} {o : TObj} (h : solidB o = false) : objB pre o = false := by rw [objB, h]; simp
theorem objB_yes {pre : List TObj} {o : TObj} (h1 : nameOk o.name = true) (h2 : (pre.any fun e => decide (e.name = o.name)) = false) (h3 : solidB o = true) : objB pre o = true := by rw [objB, h1, h2, h3]; rfl
set_option maxHeartbeats 2000000 in
theorem grasp_Check (w : TWork) (hm : mild w) : FnOk Try.prog F.grasp_Check [Wk w] [] 0 (I (workErr w)) [] 0 := by
  obtain ⟨m1, m2, m3, m4, m5, m6, m7⟩ := hm
  have hc := count_bd fun o ho => (m3 o ho).1
  refine fnOk tab mix G.grasp_Check rfl rfl (by kernel_rfl) rfl rfl ?_
  (conv => whnf)
  refine call_i (scene_Check w.scene m1) ?_
  (conv => whnf)
  refine ask_m (fun h => ?_) (fun h => ?_)
  · have h : ¬ checkScene w.scene = 0 := by simpa using h
    (conv => whnf)
    refine ret0 ?_
    exact ret_i (by rw [workErr, if_pos h]) rfl
  have h : checkScene w.scene = 0 := by simpa using h
  have hsh : w.scene.shapes.length ≤ 24 := (scene_facts h).2.1
  have e : workErr w = if fitB w = false then 3401 else if objsB [] w.objects = false then 3402 else if 24 < w.scene.shapes.length + countOf w.objects then 3401 else 0 := by rw [workErr, if_neg (by simp [h])]
  rw [e]
  clear e
  (conv => whnf)
  refine call_i (grasp_fitting w ⟨m1, m2, m3, m4, m5, m6, m7⟩) ?_
  (conv => whnf)
  refine ask_m (fun h2 => ?_) (fun h2 => ?_)
  · have h2 : fitB w = false := by simpa using h2
    rw [if_pos h2]
    (conv => whnf)
    refine ret0 ?_
    exact ret_i rfl rfl
  have h2 : fitB w = true := by simpa using h2
  rw [if_neg (by rw [h2]; decide)]
  (conv => whnf)
  refine loop_intro (fun k : Nat => ⟨[(1, .one (.vptr 0 0)), (4, I ((w.scene.shapes.length + countOf (w.objects.take k) : Nat) : Int)), (22, .one (.dv (dOs w.objects))), (23, I w.objects.length), (24, I k)], [(0, bWk w)], 1⟩) (fun k => k ≤ w.objects.length ∧ objsB (w.objects.take k) (w.objects.drop k) = objsB [] w.objects) (fun k => w.objects.length - k) [] 0 [] ⟨Nat.zero_le _, rfl⟩ ⟨⟨rfl, eqI (by simp [countOf]), rfl, eqI (by simp), rfl, trivial⟩, ⟨rfl, trivial⟩⟩ ?_
  rintro k ⟨hk, hall⟩
  have hkk : IntKind.i64.wrap ((k : Int) + 1) = ((k + 1 : Nat) : Int) := by rw [w64] <;> omega
  (conv => whnf)
  refine ask_m (fun h3 => ?_) (fun h3 => ?_)
  · have hlt : k < w.objects.length := by have := of_decide_eq_true h3; omega
    obtain ⟨o, ho⟩ : ∃ j, w.objects[k]? = some j := ⟨_, List.getElem?_eq_getElem hlt⟩
    have hto : w.objects.take (k + 1) = w.objects.take k ++ [o] := by simpa using map_take1 id ho
    have m3o := m3 o (List.mem_of_getElem? ho)
    have hck := hc k
    rw [drop_cons ho] at hall
    (conv => whnf)
    refine idx_and (by omega) (by simpa using ho) ?_
    (conv => whnf)
    refine call_i (token_Name o.name) ?_
    (conv => whnf)
    refine ask_m (fun h4 => ?_) (fun h4 => ?_)
    · have h4 : nameOk o.name = false := by simpa using h4
      rw [objB_false (objB_no1 h4)] at hall
      rw [← hall, if_pos rfl]
      (conv => whnf)
      refine ret0 ?_
      exact ret_i rfl rfl
    have h4 : nameOk o.name = true := by simpa using h4
    (conv => whnf)
    refine ⟨⟨by omega, by simp; omega⟩, ?_⟩
    (conv => whnf)
    rw [Int.toNat_natCast, ← List.map_take, List.drop_zero]
    refine call_i (obj_ContainsFunc o (w.objects.take k) (by simp; omega)) ?_
    (conv => whnf)
    refine ask_m (fun h5 => ?_) (fun h5 => ?_)
    · rw [objB_false (objB_no2 h5)] at hall
      rw [← hall, if_pos rfl]
      (conv => whnf)
      refine ret0 ?_
      exact ret_i rfl rfl
    (conv => whnf)
    refine call_i (grasp_solid o m3o) ?_
    (conv => whnf)
    refine ask_m (fun h6 => ?_) (fun h6 => ?_)
    · have h6 : solidB o = false := by simpa using h6
      rw [objB_false (objB_no3 h6)] at hall
      rw [← hall, if_pos rfl]
      (conv => whnf)
      refine ret0 ?_
      exact ret_i rfl rfl
    have h6 : solidB o = true := by simpa using h6
    rw [objB_true (objB_yes h4 h5 h6), ← hto] at hall
    (conv => whnf)
    refine ⟨k + 1, [], ⟨hlt, hall⟩, by omega, ⟨⟨rfl, eqI ?_, rfl, rfl, eqI hkk, trivial⟩, ⟨rfl, trivial⟩⟩⟩
    rw [count_take ho, List.length_map, w64] <;> omega
  · have hk : k = w.objects.length := by have := of_decide_eq_false h3; omega
    subst hk
    rw [List.drop_length, objsB] at hall
    rw [← hall, if_neg (by decide), List.take_length]
    (conv => whnf)
    refine ask_m (fun h7 => ?_) (fun h7 => ?_)
    · have h7 := of_decide_eq_true h7
      (conv => whnf)
      refine ret0 ?_
      exact ret_i (by rw [if_pos (by omega)]) rfl
    · have h7 := of_decide_eq_false h7
      (conv => whnf)
      refine ret0 ?_
      exact ret_i (by rw [if_neg (by omega)]) rfl
set_option maxHeartbeats 4000000 in
theorem ref_CheckWork (w : TWork) (hm : mild w) : FnOk Try.prog F.ref32_CheckWork [Wk w] [] 0 (I (workErr w)) [] 0 := by
  obtain ⟨m1, m2, m3, m4, m5, m6, m7⟩ := hm
  have hc := count_bd fun o ho => (m3 o ho).1
  refine fnOk tab mix G.ref32_CheckWork rfl rfl (by kernel_rfl) rfl rfl ?_
  (conv => whnf)
  refine call_i (ref_CheckScene w.scene m1) ?_
  (conv => whnf)
  refine ask_m (fun h => ?_) (fun h => ?_)
  · have h : ¬ checkScene w.scene = 0 := by simpa using h
    (conv => whnf)
    refine ret0 ?_
    exact ret_i (by rw [workErr, if_pos h]) rfl
  have h : checkScene w.scene = 0 := by simpa using h
  have hsh : w.scene.shapes.length ≤ 24 := (scene_facts h).2.1
  have e : workErr w = if fitB w = false then 3401 else if objsB [] w.objects = false then 3402 else if 24 < w.scene.shapes.length + countOf w.objects then 3401 else 0 := by rw [workErr, if_neg (by simp [h])]
  rw [e]
  clear e
  have no : ∀ {b : Bool}, b = false → fitB w = b → (if fitB w = false then (3401 : Int) else if objsB [] w.objects = false then 3402 else if 24 < w.scene.shapes.length + countOf w.objects then 3401 else 0) = 3401 := fun hb e => by rw [if_pos (e.trans hb)]
  (conv => whnf)
  refine ask_m (fun h1 => ?_) (fun h1 => ?_)
  · have h1 := of_decide_eq_true h1
    simp only [List.length_map] at h1
    (conv => whnf)
    refine ret0 ?_
    exact ret_i (no rfl (sizes_no (by simp [sizesB]; omega))).symm rfl
  have h1 := of_decide_eq_false h1
  simp only [List.length_map] at h1
  (conv => whnf)
  refine ask_m (fun h2 => ?_) (fun h2 => ?_)
  · have h2 := of_decide_eq_true h2
    simp only [List.length_map] at h2
    (conv => whnf)
    refine ret0 ?_
    exact ret_i (no rfl (sizes_no (by simp [sizesB]; omega))).symm rfl
  have h2 := of_decide_eq_false h2
  simp only [List.length_map] at h2
  (conv => whnf)
  refine ask_m (fun h3 => ?_) (fun h3 => ?_)
  · have h3 := of_decide_eq_true h3
    simp only [List.length_map] at h3
    (conv => whnf)
    refine ret0 ?_
    exact ret_i (no rfl (sizes_no (by simp [sizesB]; omega))).symm rfl
  have h3 := of_decide_eq_false h3
  simp only [List.length_map] at h3
  (conv => whnf)
  refine ask_m (fun h4 => ?_) (fun h4 => ?_)
  · have h4 := of_decide_eq_true h4
    simp only [List.length_map] at h4
    (conv => whnf)
    refine ret0 ?_
    exact ret_i (no rfl (sizes_no (by simp [sizesB]; omega))).symm rfl
  have h4 := of_decide_eq_false h4
  simp only [List.length_map] at h4
  (conv => whnf)
  refine ask_m (fun h5 => ?_) (fun h5 => ?_)
  · have h5 := of_decide_eq_true h5
    (conv => whnf)
    refine ret0 ?_
    exact ret_i (no rfl (sizes_no (by simp [sizesB]; omega))).symm rfl
  have h5 := of_decide_eq_false h5
  (conv => whnf)
  refine ask_m (fun h6 => ?_) (fun h6 => ?_)
  · have h6 := of_decide_eq_true h6
    (conv => whnf)
    refine ret0 ?_
    exact ret_i (no rfl (sizes_no (by simp [sizesB]; omega))).symm rfl
  have h6 := of_decide_eq_false h6
  have hs : sizesB w = true := by simp [sizesB]; omega
  have e : fitB w = (w.places.all nearB && (w.hands.all (handB w) && w.grips.all (gripB w))) := by rw [fitB, hs, Bool.true_and, Bool.and_assoc]
  (conv => whnf)
  refine loop_intro (fun k : Nat => ⟨[(1, .one (.vptr 0 0)), (4, I k)], [(0, bWk w)], 1⟩) (fun k => k ≤ w.places.length ∧ (w.places.take k).all nearB = true) (fun k => w.places.length - k) [] 0 [] ⟨Nat.zero_le _, rfl⟩ ⟨⟨rfl, rfl, trivial⟩, ⟨rfl, trivial⟩⟩ ?_
  rintro k ⟨hk, hall⟩
  have hkk : IntKind.i64.wrap ((k : Int) + 1) = ((k + 1 : Nat) : Int) := by rw [w64] <;> omega
  (conv => whnf)
  refine ask_m (fun h => ?_) (fun h => ?_)
  · have hlt : k < w.places.length := by have := of_decide_eq_true h; simp only [List.length_map] at this; omega
    obtain ⟨p, hp⟩ : ∃ j, w.places[k]? = some j := ⟨_, List.getElem?_eq_getElem hlt⟩
    (conv => whnf)
    refine idx_and (by omega) (by simpa using hp) ?_
    (conv => whnf)
    refine call_i (ref_Near p 2097152 (by decide) (by decide)) ?_
    (conv => whnf)
    refine ask_m (fun h7 => ?_) (fun h7 => ?_)
    · have h7 : nearB p = false := by simpa [nearB] using h7
      (conv => whnf)
      refine ret0 ?_
      exact ret_i (no (all_not hp h7) (by rw [e, all_not hp h7]; rfl)).symm rfl
    have h7 : nearB p = true := by simpa [nearB] using h7
    (conv => whnf)
    exact ⟨k + 1, [], ⟨hlt, all_take hall hp h7⟩, by omega, ⟨⟨rfl, eqI hkk, trivial⟩, ⟨rfl, trivial⟩⟩⟩
  have hk : k = w.places.length := by have := of_decide_eq_false h; simp only [List.length_map] at this; omega
  subst hk
  rw [List.take_length] at hall
  rw [hall, Bool.true_and] at e
  clear hall h hkk
  (conv => whnf)
  refine loop_intro (fun k : Nat => ⟨[(1, .one (.vptr 0 0)), (5, I k)], [(0, bWk w)], 1⟩) (fun k => k ≤ w.hands.length ∧ (w.hands.take k).all (handB w) = true) (fun k => w.hands.length - k) [] 0 [] ⟨Nat.zero_le _, rfl⟩ ⟨⟨rfl, rfl, trivial⟩, ⟨rfl, trivial⟩⟩ ?_
  rintro k ⟨hk, hall⟩
  have hkk : IntKind.i64.wrap ((k : Int) + 1) = ((k + 1 : Nat) : Int) := by rw [w64] <;> omega
  (conv => whnf)
  refine ask_m (fun h => ?_) (fun h => ?_)
  · have hlt : k < w.hands.length := by have := of_decide_eq_true h; simp only [List.length_map] at this; omega
    obtain ⟨p, hp⟩ : ∃ j, w.hands[k]? = some j := ⟨_, List.getElem?_eq_getElem hlt⟩
    have bad : handB w p = false → fitB w = false := fun h => by rw [e, all_not hp h]; rfl
    (conv => whnf)
    refine idx_and (by omega) (by simpa using hp) ?_
    (conv => whnf)
    refine ask_m (fun h7 => ?_) (fun h7 => ?_)
    · have h7 := of_decide_eq_true h7
      (conv => whnf)
      refine ret0 ?_
      exact ret_i (no rfl (bad (by simp [handB]; omega))).symm rfl
    have h7 := of_decide_eq_false h7
    (conv => whnf)
    refine ask_m (fun h8 => ?_) (fun h8 => ?_)
    · have h8 := of_decide_eq_true h8
      simp only [List.length_map] at h8
      (conv => whnf)
      refine ret0 ?_
      exact ret_i (no rfl (bad (by simp [handB]; omega))).symm rfl
    have h8 := of_decide_eq_false h8
    simp only [List.length_map] at h8
    (conv => whnf)
    refine call_i (ref_Near p.off 2097152 (by decide) (by decide)) ?_
    (conv => whnf)
    refine ask_m (fun h9 => ?_) (fun h9 => ?_)
    · have h9 : nearB p.off = false := by simpa [nearB] using h9
      (conv => whnf)
      refine ret0 ?_
      exact ret_i (no rfl (bad (by simp [handB, h9]))).symm rfl
    have h9 : nearB p.off = true := by simpa [nearB] using h9
    (conv => whnf)
    exact ⟨k + 1, [], ⟨hlt, all_take hall hp (by simp [handB, h9]; omega)⟩, by omega, ⟨⟨rfl, eqI hkk, trivial⟩, ⟨rfl, trivial⟩⟩⟩
  have hk : k = w.hands.length := by have := of_decide_eq_false h; simp only [List.length_map] at this; omega
  subst hk
  rw [List.take_length] at hall
  rw [hall, Bool.true_and] at e
  clear hall h hkk
  (conv => whnf)
  refine loop_intro (fun k : Nat => ⟨[(1, .one (.vptr 0 0)), (7, I k)], [(0, bWk w)], 1⟩) (fun k => k ≤ w.grips.length ∧ (w.grips.take k).all (gripB w) = true) (fun k => w.grips.length - k) [] 0 [] ⟨Nat.zero_le _, rfl⟩ ⟨⟨rfl, rfl, trivial⟩, ⟨rfl, trivial⟩⟩ ?_
  rintro k ⟨hk, hall⟩
  have hkk : IntKind.i64.wrap ((k : Int) + 1) = ((k + 1 : Nat) : Int) := by rw [w64] <;> omega
  (conv => whnf)
  refine ask_m (fun h => ?_) (fun h => ?_)
  · have hlt : k < w.grips.length := by have := of_decide_eq_true h; simp only [List.length_map] at this; omega
    obtain ⟨p, hp⟩ : ∃ j, w.grips[k]? = some j := ⟨_, List.getElem?_eq_getElem hlt⟩
    have bad : gripB w p = false → fitB w = false := fun h => by rw [e, all_not hp h]
    (conv => whnf)
    refine idx_and (by omega) (by simpa using hp) ?_
    (conv => whnf)
    refine ask_m (fun q1 => ?_) (fun q1 => ?_)
    · have q1 := of_decide_eq_true q1
      (conv => whnf)
      refine ret0 ?_
      exact ret_i (no rfl (bad (by simp [gripB, knownB]; omega))).symm rfl
    have q1 := of_decide_eq_false q1
    (conv => whnf)
    refine ask_m (fun q2 => ?_) (fun q2 => ?_)
    · have q2 := of_decide_eq_true q2
      simp only [List.length_map] at q2
      (conv => whnf)
      refine ret0 ?_
      exact ret_i (no rfl (bad (by simp [gripB, knownB]; omega))).symm rfl
    have q2 := of_decide_eq_false q2
    simp only [List.length_map] at q2
    (conv => whnf)
    refine ask_m (fun q3 => ?_) (fun q3 => ?_)
    · have q3 := of_decide_eq_true q3
      (conv => whnf)
      refine ret0 ?_
      exact ret_i (no rfl (bad (by simp [gripB, knownB]; omega))).symm rfl
    have q3 := of_decide_eq_false q3
    (conv => whnf)
    refine ask_m (fun q4 => ?_) (fun q4 => ?_)
    · have q4 := of_decide_eq_true q4
      simp only [List.length_map] at q4
      (conv => whnf)
      refine ret0 ?_
      exact ret_i (no rfl (bad (by simp [gripB, knownB]; omega))).symm rfl
    have q4 := of_decide_eq_false q4
    simp only [List.length_map] at q4
    (conv => whnf)
    refine call_i (ref_Inside w.scene.robot p.at_ m1.1 m1.2.1 (m7 p (List.mem_of_getElem? hp))) ?_
    (conv => whnf)
    refine ask_m (fun h8 => ?_) (fun h8 => ?_)
    · have h8 : insideB w.scene.robot p.at_ = false := by simpa using h8
      (conv => whnf)
      refine ret0 ?_
      exact ret_i (no rfl (bad (by simp [gripB, h8]))).symm rfl
    have h8 : insideB w.scene.robot p.at_ = true := by simpa using h8
    (conv => whnf)
    exact ⟨k + 1, [], ⟨hlt, all_take hall hp (by simp [gripB, knownB, h8]; omega)⟩, by omega, ⟨⟨rfl, eqI hkk, trivial⟩, ⟨rfl, trivial⟩⟩⟩
  have hk : k = w.grips.length := by have := of_decide_eq_false h; simp only [List.length_map] at this; omega
  subst hk
  rw [List.take_length] at hall
  rw [hall] at e
  rw [if_neg (by rw [e]; decide)]
  clear hall h hkk no
  (conv => whnf)
  refine loop_intro (fun k : Nat => ⟨[(1, .one (.vptr 0 0)), (9, I ((w.scene.shapes.length + countOf (w.objects.take k) : Nat) : Int)), (10, I k)], [(0, bWk w)], 1⟩) (fun k => k ≤ w.objects.length ∧ objsB (w.objects.take k) (w.objects.drop k) = objsB [] w.objects) (fun k => w.objects.length - k) [] 0 [] ⟨Nat.zero_le _, rfl⟩ ⟨⟨rfl, eqI (by simp [countOf]), rfl, trivial⟩, ⟨rfl, trivial⟩⟩ ?_
  rintro k ⟨hk, hall⟩
  have hkk : IntKind.i64.wrap ((k : Int) + 1) = ((k + 1 : Nat) : Int) := by rw [w64] <;> omega
  (conv => whnf)
  refine ask_m (fun h3 => ?_) (fun h3 => ?_)
  · have hlt : k < w.objects.length := by have := of_decide_eq_true h3; simp only [List.length_map] at this; omega
    obtain ⟨o, ho⟩ : ∃ j, w.objects[k]? = some j := ⟨_, List.getElem?_eq_getElem hlt⟩
    have hto : w.objects.take (k + 1) = w.objects.take k ++ [o] := by simpa using map_take1 id ho
    have m3o := m3 o (List.mem_of_getElem? ho)
    have hck := hc k
    rw [drop_cons ho] at hall
    (conv => whnf)
    refine idx_and (by omega) (by simpa using ho) ?_
    (conv => whnf)
    refine call_i (ref_object o m3o) ?_
    (conv => whnf)
    refine ask_m (fun h4 => ?_) (fun h4 => ?_)
    · have h4 : (nameOk o.name && solidB o) = false := by rwa [Bool.not_eq_true'] at h4
      have : objB (w.objects.take k) o = false := by
        rw [Bool.and_eq_false_iff] at h4
        rcases h4 with h4 | h4
        · exact objB_no1 h4
        · exact objB_no3 h4
      rw [objB_false this] at hall
      rw [← hall, if_pos rfl]
      (conv => whnf)
      refine ret0 ?_
      exact ret_i rfl rfl
    have h4 : nameOk o.name = true ∧ solidB o = true := by simpa using h4
    (conv => whnf)
    refine loop_intro (fun c : Nat => ⟨[(1, .one (.vptr 0 0)), (9, I ((w.scene.shapes.length + countOf (w.objects.take k) : Nat) : Int)), (10, I k), (11, I c)], [(0, bWk w)], 1⟩) (fun c => c ≤ k ∧ ((w.objects.take c).any fun e => decide (e.name = o.name)) = false) (fun c => k - c) [] 0 [] ⟨Nat.zero_le _, rfl⟩ ⟨⟨rfl, rfl, rfl, rfl, trivial⟩, ⟨rfl, trivial⟩⟩ ?_
    rintro c ⟨hck2, hany⟩
    have hcc : IntKind.i64.wrap ((c : Int) + 1) = ((c + 1 : Nat) : Int) := by rw [w64] <;> omega
    (conv => whnf)
    refine ask_m (fun h5 => ?_) (fun h5 => ?_)
    · have hcl : c < k := by have := of_decide_eq_true h5; omega
      obtain ⟨p, hp⟩ : ∃ j, w.objects[c]? = some j := ⟨_, List.getElem?_eq_getElem (by omega)⟩
      have htp : w.objects.take (c + 1) = w.objects.take c ++ [p] := by simpa using map_take1 id hp
      (conv => whnf)
      refine idx_and (by omega) (by simpa using hp) ?_
      (conv => whnf)
      refine idx_and (by omega) (by simpa using ho) ?_
      (conv => whnf)
      refine ask_m (fun h6 => ?_) (fun h6 => ?_)
      · have hpm : p ∈ w.objects.take k := List.mem_of_getElem? (i := c) (by rw [List.getElem?_take, if_pos hcl]; exact hp)
        have : ((w.objects.take k).any fun e => decide (e.name = o.name)) = true := List.any_eq_true.2 ⟨p, hpm, h6⟩
        rw [objB_false (objB_no2 this)] at hall
        rw [← hall, if_pos rfl]
        (conv => whnf)
        refine ret0 ?_
        exact ret_i rfl rfl
      (conv => whnf)
      exact ⟨c + 1, [], ⟨hcl, by rw [htp, List.any_append, hany]; simpa using h6⟩, by omega, ⟨⟨rfl, rfl, rfl, eqI hcc, trivial⟩, ⟨rfl, trivial⟩⟩⟩
    · have hck : c = k := by have := of_decide_eq_false h5; omega
      subst hck
      rw [objB_true (objB_yes h4.1 hany h4.2), ← hto] at hall
      (conv => whnf)
      refine idx_and (by omega) (by simpa using ho) ?_
      (conv => whnf)
      refine ⟨c + 1, [], ⟨hlt, hall⟩, by omega, ⟨⟨rfl, eqI ?_, eqI hkk, trivial⟩, ⟨rfl, trivial⟩⟩⟩
      rw [count_take ho, List.length_map, w64] <;> omega
  · have hk : k = w.objects.length := by have := of_decide_eq_false h3; simp only [List.length_map] at this; omega
    subst hk
    rw [List.drop_length, objsB] at hall
    rw [← hall, if_neg (by decide), List.take_length]
    (conv => whnf)
    refine ask_m (fun h7 => ?_) (fun h7 => ?_)
    · have h7 := of_decide_eq_true h7
      (conv => whnf)
      refine ret0 ?_
      exact ret_i (by rw [if_pos (by omega)]) rfl
    · have h7 := of_decide_eq_false h7
      (conv => whnf)
      refine ret0 ?_
      exact ret_i (by rw [if_neg (by omega)]) rfl
end Go.Proofs.Ytopcjmipldkijaa

/- grasp.Valid, ref.ValidMode; where things are; what can be done. -/
namespace Go.Proofs.Ytopcjmipldkijaa
open Eng
set_option maxRecDepth 10000
attribute [local irreducible] FnOk loopW idxF retX arrF findF

theorem modeB_no {w : TWork} {pre l : List Int} {x : Int} (h : ¬ (-(w.hands.length : Int) ≤ x ∧ x < w.places.length) ∨ pre.any (fun y => decide (y = x)) = true) : modeB w pre (x :: l) = false := by
  rw [modeB]
  rcases h with h | h
  · have : (decide (-(w.hands.length : Int) ≤ x) && decide (x < w.places.length)) = false := by
      rw [Bool.and_eq_false_iff, decide_eq_false_iff_not, decide_eq_false_iff_not]
      omega
    rw [this]; rfl
  · rw [h]; simp
theorem modeB_yes {w : TWork} {pre l : List Int} {x : Int} (h1 : -(w.hands.length : Int) ≤ x) (h2 : x < w.places.length) (h3 : pre.any (fun y => decide (y = x)) = false) : modeB w pre (x :: l) = modeB w (pre ++ [x]) l := by
  rw [modeB, decide_eq_true h1, decide_eq_true h2, h3]; rfl
theorem valid_no1 {w : TWork} {m : List Int} (h : ¬ workErr w = 0) : validB w m = false := by rw [validB, decide_eq_false h]; rfl
theorem valid_no2 {w : TWork} {m : List Int} (h : ¬ m.length = w.objects.length) : validB w m = false := by rw [validB, decide_eq_false h]; simp
theorem valid_is {w : TWork} {m : List Int} (h1 : workErr w = 0) (h2 : m.length = w.objects.length) : validB w m = modeB w [] m := by rw [validB, decide_eq_true h1, decide_eq_true h2]; rfl
theorem negw {n : Nat} (h : n ≤ 1000) : IntKind.i64.wrap (0 - (n : Int)) = -(n : Int) := by rw [w64] <;> omega
set_option maxHeartbeats 1000000 in
theorem grasp_Valid (w : TWork) (m : List Int) (hm : mild w) : FnOk Try.prog F.grasp_Valid [Wk w, Md m] [] 0 (Bo (validB w m)) [] 0 := by
  have hml := hm.2.2.2.2.1
  have hml2 := hm.2.1
  refine fnOk tab mix G.grasp_Valid rfl rfl (by kernel_rfl) rfl rfl ?_
  (conv => whnf)
  refine call_i (grasp_Check w hm) ?_
  (conv => whnf)
  refine ask_m (fun h1 => ?_) (fun h1 => ?_)
  · have h1 : ¬ workErr w = 0 := by simpa using h1
    (conv => whnf)
    refine ret0 ?_
    exact ret_b (valid_no1 h1).symm rfl
  have h1 : workErr w = 0 := by simpa using h1
  (conv => whnf)
  refine ask_m (fun h2 => ?_) (fun h2 => ?_)
  · have h2 : ¬ m.length = w.objects.length := by simp at h2; omega
    (conv => whnf)
    refine ret0 ?_
    exact ret_b (valid_no2 h2).symm rfl
  have h2 : m.length = w.objects.length := by simp at h2; omega
  rw [valid_is h1 h2]
  (conv => whnf)
  refine loop_intro (fun k : Nat => ⟨[(2, .one (.vptr 0 0)), (3, .one (.vptr 1 0)), (20, Li m), (21, I m.length), (22, I k)], [(0, bWk w), (1, bMd m)], 2⟩) (fun k => k ≤ m.length ∧ modeB w (m.take k) (m.drop k) = modeB w [] m) (fun k => m.length - k) [] 0 [] ⟨Nat.zero_le _, rfl⟩ ⟨⟨rfl, rfl, rfl, eqI (by simp), rfl, trivial⟩, ⟨rfl, rfl, trivial⟩⟩ ?_
  rintro k ⟨hk, hall⟩
  have hkk : IntKind.i64.wrap ((k : Int) + 1) = ((k + 1 : Nat) : Int) := by rw [w64] <;> omega
  (conv => whnf)
  refine ask_m (fun h => ?_) (fun h => ?_)
  · have hlt : k < m.length := by have := of_decide_eq_true h; omega
    obtain ⟨x, hx⟩ : ∃ j, m[k]? = some j := ⟨_, List.getElem?_eq_getElem hlt⟩
    have hto : m.take (k + 1) = m.take k ++ [x] := by simpa using map_take1 id hx
    rw [drop_cons hx] at hall
    (conv => whnf)
    refine idx_and (by omega) (by simpa using hx) ?_
    (conv => whnf)
    rw [List.length_map, negw (by omega)]
    refine ask_m (fun h3 => ?_) (fun h3 => ?_)
    · have h3 := of_decide_eq_true h3
      (conv => whnf)
      refine ret0 ?_
      exact ret_b ((modeB_no (.inl (by omega))).symm.trans hall) rfl
    have h3 := of_decide_eq_false h3
    (conv => whnf)
    refine ask_m (fun h4 => ?_) (fun h4 => ?_)
    · have h4 := of_decide_eq_true h4
      simp only [List.length_map] at h4
      (conv => whnf)
      refine ret0 ?_
      exact ret_b ((modeB_no (.inl (by omega))).symm.trans hall) rfl
    have h4 := of_decide_eq_false h4
    simp only [List.length_map] at h4
    (conv => whnf)
    refine ⟨⟨by omega, by simp; omega⟩, ?_⟩
    (conv => whnf)
    rw [Int.toNat_natCast, ← List.map_take, List.drop_zero]
    refine call_i (int_Contains (m.take k) x (by simp; omega)) ?_
    (conv => whnf)
    refine ask_m (fun h5 => ?_) (fun h5 => ?_)
    · (conv => whnf)
      refine ret0 ?_
      exact ret_b ((modeB_no (.inr h5)).symm.trans hall) rfl
    rw [modeB_yes (by omega) (by omega) h5, ← hto] at hall
    (conv => whnf)
    exact ⟨k + 1, [], ⟨hlt, hall⟩, by omega, ⟨⟨rfl, rfl, rfl, rfl, eqI hkk, trivial⟩, ⟨rfl, rfl, trivial⟩⟩⟩
  · have hk : k = m.length := by have := of_decide_eq_false h; omega
    subst hk
    rw [List.drop_length, modeB] at hall
    (conv => whnf)
    refine ret0 ?_
    exact ret_b hall rfl
set_option maxHeartbeats 1000000 in
theorem ref_ValidMode (w : TWork) (m : List Int) (hm : mild w) : FnOk Try.prog F.ref32_ValidMode [Wk w, Md m] [] 0 (Bo (validB w m)) [] 0 := by
  have hml := hm.2.2.2.2.1
  have hml2 := hm.2.1
  refine fnOk tab mix G.ref32_ValidMode rfl rfl (by kernel_rfl) rfl rfl ?_
  (conv => whnf)
  refine call_i (ref_CheckWork w hm) ?_
  (conv => whnf)
  refine ask_m (fun h1 => ?_) (fun h1 => ?_)
  · have h1 : ¬ workErr w = 0 := by simpa using h1
    (conv => whnf)
    refine ret0 ?_
    exact ret_b (valid_no1 h1).symm rfl
  have h1 : workErr w = 0 := by simpa using h1
  (conv => whnf)
  refine ask_m (fun h2 => ?_) (fun h2 => ?_)
  · have h2 : ¬ m.length = w.objects.length := by simp at h2; omega
    (conv => whnf)
    refine ret0 ?_
    exact ret_b (valid_no2 h2).symm rfl
  have h2 : m.length = w.objects.length := by simp at h2; omega
  rw [valid_is h1 h2]
  (conv => whnf)
  refine loop_intro (fun k : Nat => ⟨[(2, .one (.vptr 0 0)), (3, .one (.vptr 1 0)), (5, I k)], [(0, bWk w), (1, bMd m)], 2⟩) (fun k => k ≤ m.length ∧ modeB w (m.take k) (m.drop k) = modeB w [] m) (fun k => m.length - k) [] 0 [] ⟨Nat.zero_le _, rfl⟩ ⟨⟨rfl, rfl, rfl, trivial⟩, ⟨rfl, rfl, trivial⟩⟩ ?_
  rintro k ⟨hk, hall⟩
  have hkk : IntKind.i64.wrap ((k : Int) + 1) = ((k + 1 : Nat) : Int) := by rw [w64] <;> omega
  (conv => whnf)
  refine ask_m (fun h => ?_) (fun h => ?_)
  · have hlt : k < m.length := by have := of_decide_eq_true h; simp only [List.length_map] at this; omega
    obtain ⟨x, hx⟩ : ∃ j, m[k]? = some j := ⟨_, List.getElem?_eq_getElem hlt⟩
    have hto : m.take (k + 1) = m.take k ++ [x] := by simpa using map_take1 id hx
    rw [drop_cons hx] at hall
    (conv => whnf)
    refine idx_and (by omega) (by simpa using hx) ?_
    (conv => whnf)
    rw [List.length_map, negw (by omega)]
    refine ask_m (fun h3 => ?_) (fun h3 => ?_)
    · have h3 := of_decide_eq_true h3
      (conv => whnf)
      refine ret0 ?_
      exact ret_b ((modeB_no (.inl (by omega))).symm.trans hall) rfl
    have h3 := of_decide_eq_false h3
    (conv => whnf)
    refine idx_and (by omega) (by simpa using hx) ?_
    (conv => whnf)
    refine ask_m (fun h4 => ?_) (fun h4 => ?_)
    · have h4 := of_decide_eq_true h4
      simp only [List.length_map] at h4
      (conv => whnf)
      refine ret0 ?_
      exact ret_b ((modeB_no (.inl (by omega))).symm.trans hall) rfl
    have h4 := of_decide_eq_false h4
    simp only [List.length_map] at h4
    (conv => whnf)
    refine loop_intro (fun c : Nat => ⟨[(2, .one (.vptr 0 0)), (3, .one (.vptr 1 0)), (5, I k), (6, I c)], [(0, bWk w), (1, bMd m)], 2⟩) (fun c => c ≤ k ∧ ((m.take c).any fun y => decide (y = x)) = false) (fun c => k - c) [] 0 [] ⟨Nat.zero_le _, rfl⟩ ⟨⟨rfl, rfl, rfl, rfl, trivial⟩, ⟨rfl, rfl, trivial⟩⟩ ?_
    rintro c ⟨hck, hany⟩
    have hcc : IntKind.i64.wrap ((c : Int) + 1) = ((c + 1 : Nat) : Int) := by rw [w64] <;> omega
    (conv => whnf)
    refine ask_m (fun h5 => ?_) (fun h5 => ?_)
    · have hcl : c < k := by have := of_decide_eq_true h5; omega
      obtain ⟨p, hp⟩ : ∃ j, m[c]? = some j := ⟨_, List.getElem?_eq_getElem (by omega)⟩
      have htp : m.take (c + 1) = m.take c ++ [p] := by simpa using map_take1 id hp
      (conv => whnf)
      refine idx_and (by omega) (by simpa using hp) ?_
      (conv => whnf)
      refine idx_and (by omega) (by simpa using hx) ?_
      (conv => whnf)
      refine ask_m (fun h6 => ?_) (fun h6 => ?_)
      · have h6 : p = x := by simpa using h6
        have hpm : p ∈ m.take k := List.mem_of_getElem? (i := c) (by rw [List.getElem?_take, if_pos hcl]; exact hp)
        (conv => whnf)
        refine ret0 ?_
        exact ret_b ((modeB_no (.inr (List.any_eq_true.2 ⟨p, hpm, by simp [h6]⟩))).symm.trans hall) rfl
      have h6 : ¬ p = x := by simpa using h6
      (conv => whnf)
      exact ⟨c + 1, [], ⟨hcl, by rw [htp, List.any_append, hany]; simpa using h6⟩, by omega, ⟨⟨rfl, rfl, rfl, eqI hcc, trivial⟩, ⟨rfl, rfl, trivial⟩⟩⟩
    · have hck : c = k := by have := of_decide_eq_false h5; omega
      subst hck
      rw [modeB_yes (by omega) (by omega) hany, ← hto] at hall
      (conv => whnf)
      exact ⟨c + 1, [], ⟨hlt, hall⟩, by omega, ⟨⟨rfl, rfl, eqI hkk, trivial⟩, ⟨rfl, rfl, trivial⟩⟩⟩
  · have hk : k = m.length := by have := of_decide_eq_false h; simp only [List.length_map] at this; omega
    subst hk
    rw [List.drop_length, modeB] at hall
    (conv => whnf)
    refine ret0 ?_
    exact ret_b hall rfl
theorem ref_ObjectAt (m : List Int) (x : Int) (hm : m.length ≤ 4611686018427387904) : FnOk Try.prog F.ref32_ObjectAt [Md m, I x] [] 0 (I (objAt m x)) [] 0 := by
  refine fnOk tab mix G.ref32_ObjectAt rfl rfl (by kernel_rfl) rfl rfl ?_
  (conv => whnf)
  refine loop_intro (fun k : Nat => ⟨[(1, I x), (2, .one (.vptr 0 0)), (5, I k)], [(0, bMd m)], 1⟩) (fun k => k ≤ m.length ∧ idxI x (m.drop k) k = objAt m x) (fun k => m.length - k) [] 0 [] ⟨Nat.zero_le _, rfl⟩ ⟨⟨rfl, rfl, rfl, trivial⟩, ⟨rfl, trivial⟩⟩ ?_
  rintro k ⟨hk, hf⟩
  have hkk : IntKind.i64.wrap ((k : Int) + 1) = ((k + 1 : Nat) : Int) := by rw [w64] <;> omega
  (conv => whnf)
  refine ask_m (fun h => ?_) (fun h => ?_)
  · have hlt : k < m.length := by have := of_decide_eq_true h; simp only [List.length_map] at this; omega
    obtain ⟨y, hy⟩ : ∃ j, m[k]? = some j := ⟨_, List.getElem?_eq_getElem hlt⟩
    rw [drop_cons hy, idxI] at hf
    (conv => whnf)
    refine idx_and (by omega) (by simpa using hy) ?_
    (conv => whnf)
    refine ask_m (fun h1 => ?_) (fun h1 => ?_)
    · have h1 : y = x := by simpa using h1
      rw [if_pos h1] at hf
      (conv => whnf)
      refine ret0 ?_
      exact ret_i hf rfl
    · have h1 : ¬ y = x := by simpa using h1
      rw [if_neg h1] at hf
      (conv => whnf)
      exact ⟨k + 1, [], ⟨hlt, hf⟩, by omega, ⟨⟨rfl, rfl, eqI hkk, trivial⟩, ⟨rfl, trivial⟩⟩⟩
  · have hk : k = m.length := by have := of_decide_eq_false h; simp only [List.length_map] at this; omega
    subst hk
    rw [List.drop_length, idxI] at hf
    (conv => whnf)
    refine ret0 ?_
    exact ret_i hf rfl
theorem meets_drop {m g : List Int} {k : Nat} {x y : Int} (hx : m[k]? = some x) (hy : g[k]? = some y) : meets (m.drop k) (g.drop k) = ((decide (y = -1048576) || decide (y = x)) && meets (m.drop (k + 1)) (g.drop (k + 1))) := by
  rw [drop_cons hx, drop_cons hy, meets]
theorem ref_there (m g : List Int) (hg : g.length ≤ 4611686018427387904) (hl : g.length ≤ m.length) : FnOk Try.prog F.ref36_there [Md m, Li g] [] 0 (Bo (meets m g)) [] 0 := by
  refine fnOk tab mix G.ref36_there rfl rfl (by kernel_rfl) rfl rfl ?_
  (conv => whnf)
  refine loop_intro (fun k : Nat => ⟨[(1, Li g), (2, .one (.vptr 0 0)), (5, I k)], [(0, bMd m)], 1⟩) (fun k => k ≤ g.length ∧ meets (m.drop k) (g.drop k) = meets m g) (fun k => g.length - k) [] 0 [] ⟨Nat.zero_le _, rfl⟩ ⟨⟨rfl, rfl, rfl, trivial⟩, ⟨rfl, trivial⟩⟩ ?_
  rintro k ⟨hk, hf⟩
  have hkk : IntKind.i64.wrap ((k : Int) + 1) = ((k + 1 : Nat) : Int) := by rw [w64] <;> omega
  (conv => whnf)
  refine ask_m (fun h => ?_) (fun h => ?_)
  · have hlt : k < g.length := by have := of_decide_eq_true h; simp only [List.length_map] at this; omega
    obtain ⟨y, hy⟩ : ∃ j, g[k]? = some j := ⟨_, List.getElem?_eq_getElem hlt⟩
    obtain ⟨x, hx⟩ : ∃ j, m[k]? = some j := ⟨_, List.getElem?_eq_getElem (by omega)⟩
    rw [meets_drop hx hy] at hf
    (conv => whnf)
    refine idx_and (by omega) (by simpa using hy) ?_
    (conv => whnf)
    cases h1 : y == -1048576 with
    | true =>
      have h1 : y = -1048576 := by simpa using h1
      rw [decide_eq_true h1, Bool.true_or, Bool.true_and] at hf
      have e : (y != -1048576) = false := by simp [h1]
      rw [e]
      (conv => whnf)
      exact ⟨k + 1, [], ⟨hlt, hf⟩, by omega, ⟨⟨rfl, rfl, eqI hkk, trivial⟩, ⟨rfl, trivial⟩⟩⟩
    | false =>
      have h1 : ¬ y = -1048576 := by simpa using h1
      rw [decide_eq_false h1, Bool.false_or] at hf
      have e : (y != -1048576) = true := by simp [h1]
      rw [e]
      (conv => whnf)
      refine idx_and (by omega) (by simpa using hy) ?_
      (conv => whnf)
      refine idx_and (by omega) (by simpa using hx) ?_
      (conv => whnf)
      refine ask_m (fun h2 => ?_) (fun h2 => ?_)
      · have h2 : ¬ y = x := by simpa using h2
        rw [decide_eq_false h2, Bool.false_and] at hf
        (conv => whnf)
        refine ret0 ?_
        exact ret_b hf rfl
      · have h2 : y = x := by simpa using h2
        rw [decide_eq_true h2, Bool.true_and] at hf
        (conv => whnf)
        exact ⟨k + 1, [], ⟨hlt, hf⟩, by omega, ⟨⟨rfl, rfl, eqI hkk, trivial⟩, ⟨rfl, trivial⟩⟩⟩
  · have hk : k = g.length := by have := of_decide_eq_false h; simp only [List.length_map] at this; omega
    subst hk
    rw [List.drop_length] at hf
    have hf : true = meets m g := by rw [← hf]; cases m.drop g.length <;> rfl
    (conv => whnf)
    refine ret0 ?_
    exact ret_b hf rfl
theorem ref_Reached (w : TWork) (m g : List Int) (hm : mild w) (hg : g.length ≤ 4611686018427387904) : FnOk Try.prog F.ref36_Reached [Wk w, Md m, Li g] [] 0 (Bo (reachedB w m g)) [] 0 := by
  refine fnOk tab mix G.ref36_Reached rfl rfl (by kernel_rfl) rfl rfl ?_
  (conv => whnf)
  refine call_i (ref_ValidMode w m hm) ?_
  (conv => whnf)
  cases h1 : validB w m with
  | false =>
    (conv => whnf)
    (conv => whnf)
    refine ret0 ?_
    exact ret_b (by rw [reachedB, h1]; rfl) rfl
  | true =>
    (conv => whnf)
    refine ask_m (fun h2 => ?_) (fun h2 => ?_)
    · have h2 : g.length = w.objects.length := by simp at h2; omega
      (conv => whnf)
      refine call_i (ref_there m g hg (by rw [(valid_iff.1 h1).len]; omega)) ?_
      (conv => whnf)
      (conv => whnf)
      refine ret0 ?_
      exact ret_b (by rw [reachedB, h1, decide_eq_true h2]; rfl) rfl
    · have h2 : ¬ g.length = w.objects.length := by simp at h2; omega
      (conv => whnf)
      (conv => whnf)
      refine ret0 ?_
      exact ret_b (by rw [reachedB, h1, decide_eq_false h2]; rfl) rfl
end Go.Proofs.Ytopcjmipldkijaa

/- ref.gripped, ref.can, ref.Actions, ref.Apply, ref.banned. -/
namespace Go.Proofs.Ytopcjmipldkijaa
open Eng
set_option maxRecDepth 10000
attribute [local irreducible] FnOk loopW idxF retX arrF findF

theorem cmpAct : cmpB Try.prog 8 Y.Action = true ∧ Try.prog.eqGuardType Try.prog.depth Y.Action = false := ⟨by kernel_rfl, by kernel_rfl⟩
theorem act_eq (a b : TAct) : (decide (a.kind = b.kind) && (decide (a.hand = b.hand) && (decide (a.place = b.place) && true))) = decide (a = b) := by
  rw [Bool.eq_iff_iff]
  cases a; cases b
  simp
theorem any_not {α : Type} {p : α → Bool} {l : List α} {k : Nat} {x : α} (h : l[k]? = some x) (hp : p x = true) : l.any p = true := List.any_eq_true.2 ⟨x, List.mem_of_getElem? h, hp⟩
theorem any_tk {α : Type} {p : α → Bool} {l : List α} {k : Nat} {x : α} (h : (l.take k).any p = false) (hx : l[k]? = some x) (hp : p x = false) : (l.take (k + 1)).any p = false := by
  have : l.take (k + 1) = l.take k ++ [x] := by simpa using map_take1 id hx
  rw [this, List.any_append, h]
  simp [hp]
theorem ref_gripped (w : TWork) (h p : Int) (hm : w.grips.length ≤ 1000) : FnOk Try.prog F.ref36_gripped [Wk w, I h, I p] [] 0 (Bo (gripped w h p)) [] 0 := by
  refine fnOk tab mix G.ref36_gripped rfl rfl (by kernel_rfl) rfl rfl ?_
  (conv => whnf)
  refine loop_intro (fun k : Nat => ⟨[(1, I h), (2, I p), (3, .one (.vptr 0 0)), (7, I k)], [(0, bWk w)], 1⟩) (fun k => k ≤ w.grips.length ∧ ((w.grips.take k).any fun g => decide (g.hand = h) && decide (g.place = p)) = false) (fun k => w.grips.length - k) [] 0 [] ⟨Nat.zero_le _, rfl⟩ ⟨⟨rfl, rfl, rfl, rfl, trivial⟩, ⟨rfl, trivial⟩⟩ ?_
  rintro k ⟨hk, hany⟩
  have hkk : IntKind.i64.wrap ((k : Int) + 1) = ((k + 1 : Nat) : Int) := by rw [w64] <;> omega
  (conv => whnf)
  refine ask_m (fun h1 => ?_) (fun h1 => ?_)
  · have hlt : k < w.grips.length := by have := of_decide_eq_true h1; simp only [List.length_map] at this; omega
    obtain ⟨g, hg⟩ : ∃ j, w.grips[k]? = some j := ⟨_, List.getElem?_eq_getElem hlt⟩
    (conv => whnf)
    refine idx_and (by omega) (by simpa using hg) ?_
    (conv => whnf)
    by_cases h2 : g.hand = h
    · have e : (g.hand == h) = true := by simpa using h2
      rw [e]
      (conv => whnf)
      refine idx_and (by omega) (by simpa using hg) ?_
      (conv => whnf)
      refine ask_m (fun h3 => ?_) (fun h3 => ?_)
      · have h3 : g.place = p := by simpa using h3
        (conv => whnf)
        refine ret0 ?_
        exact ret_b (any_not hg (by simp [h2, h3])).symm rfl
      have h3 : ¬ g.place = p := by simpa using h3
      (conv => whnf)
      exact ⟨k + 1, [], ⟨hlt, any_tk hany hg (by simp [h3])⟩, by omega, ⟨⟨rfl, rfl, rfl, eqI hkk, trivial⟩, ⟨rfl, trivial⟩⟩⟩
    · have e : (g.hand == h) = false := by simpa using h2
      rw [e]
      (conv => whnf)
      exact ⟨k + 1, [], ⟨hlt, any_tk hany hg (by simp [h2])⟩, by omega, ⟨⟨rfl, rfl, rfl, eqI hkk, trivial⟩, ⟨rfl, trivial⟩⟩⟩
  · have hk : k = w.grips.length := by have := of_decide_eq_false h1; simp only [List.length_map] at this; omega
    subst hk
    rw [List.take_length] at hany
    (conv => whnf)
    refine ret0 ?_
    exact ret_b hany.symm rfl
theorem can_no1 {w : TWork} {m : List Int} {a : TAct} (h : ¬ (0 ≤ a.hand ∧ a.hand < w.hands.length ∧ 0 ≤ a.place ∧ a.place < w.places.length)) : canB w m a = false := by
  cases hb : canB w m a with
  | false => rfl
  | true => exact absurd (can_facts hb).1 h
theorem can_no2 {w : TWork} {m : List Int} {a : TAct} (h : gripped w a.hand a.place = false) : canB w m a = false := by rw [canB, h]; simp
set_option maxHeartbeats 1000000 in
theorem ref_can (w : TWork) (m : List Int) (a : TAct) (hm : w.grips.length ≤ 1000 ∧ w.hands.length ≤ 1000 ∧ w.places.length ≤ 1000) (hl : m.length ≤ 4611686018427387904) : FnOk Try.prog F.ref36_can [Wk w, Md m, Ac a] [] 0 (Bo (canB w m a)) [] 0 := by
  obtain ⟨hm, hm2, hm3⟩ := hm
  refine fnOk tab mix G.ref36_can rfl rfl (by kernel_rfl) rfl rfl ?_
  (conv => whnf)
  refine ask_m (fun h1 => ?_) (fun h1 => ?_)
  · have h1 := of_decide_eq_true h1
    (conv => whnf)
    refine ret0 ?_
    exact ret_b (can_no1 (by omega)).symm rfl
  have h1 := of_decide_eq_false h1
  (conv => whnf)
  refine ask_m (fun h2 => ?_) (fun h2 => ?_)
  · have h2 := of_decide_eq_true h2
    simp only [List.length_map] at h2
    (conv => whnf)
    refine ret0 ?_
    exact ret_b (can_no1 (by omega)).symm rfl
  have h2 := of_decide_eq_false h2
  simp only [List.length_map] at h2
  (conv => whnf)
  refine ask_m (fun h3 => ?_) (fun h3 => ?_)
  · have h3 := of_decide_eq_true h3
    (conv => whnf)
    refine ret0 ?_
    exact ret_b (can_no1 (by omega)).symm rfl
  have h3 := of_decide_eq_false h3
  (conv => whnf)
  refine ask_m (fun h4 => ?_) (fun h4 => ?_)
  · have h4 := of_decide_eq_true h4
    simp only [List.length_map] at h4
    (conv => whnf)
    refine ret0 ?_
    exact ret_b (can_no1 (by omega)).symm rfl
  have h4 := of_decide_eq_false h4
  simp only [List.length_map] at h4
  (conv => whnf)
  refine call_i (ref_gripped w a.hand a.place hm) ?_
  (conv => whnf)
  refine ask_m (fun h5 => ?_) (fun h5 => ?_)
  · have h5 : gripped w a.hand a.place = false := by simpa using h5
    (conv => whnf)
    refine ret0 ?_
    exact ret_b (can_no2 h5).symm rfl
  have h5 : gripped w a.hand a.place = true := by simpa using h5
  have hk : knownB w a.hand a.place = true := by simp [knownB]; omega
  have e : canB w m a = canK m a := by rw [canB, hk, h5]; rfl
  rw [e]
  (conv => whnf)
  have ew : IntKind.i64.wrap (-1 - a.hand) = -1 - a.hand := by rw [w64] <;> omega
  rw [ew]
  refine call_i (ref_ObjectAt m (-1 - a.hand) hl) ?_
  (conv => whnf)
  refine call_i (ref_ObjectAt m a.place hl) ?_
  (conv => whnf)
  by_cases k1 : a.kind = 1
  · have e1 : (a.kind == 1) = true := by simpa using k1
    have e2 : (a.kind == 2) = false := by simp [k1]
    have ek : canK m a = (!decide (0 ≤ objAt m (-1 - a.hand)) && decide (0 ≤ objAt m a.place)) := by rw [canK, k1]; simp
    rw [ek, e1]
    (conv => whnf)
    cases b1 : decide (0 ≤ objAt m (-1 - a.hand)) with
    | true =>
      (conv => whnf)
      rw [e2]
      (conv => whnf)
      (conv => whnf)
      refine ret0 ?_
      exact ret_b rfl rfl
    | false =>
      (conv => whnf)
      cases b2 : decide (0 ≤ objAt m a.place) with
      | true =>
        (conv => whnf)
        (conv => whnf)
        refine ret0 ?_
        exact ret_b rfl rfl
      | false =>
        (conv => whnf)
        rw [e2]
        (conv => whnf)
        (conv => whnf)
        refine ret0 ?_
        exact ret_b rfl rfl
  · have e1 : (a.kind == 1) = false := by simpa using k1
    rw [e1]
    (conv => whnf)
    by_cases k2 : a.kind = 2
    · have e2 : (a.kind == 2) = true := by simpa using k2
      have ek : canK m a = (decide (0 ≤ objAt m (-1 - a.hand)) && !decide (0 ≤ objAt m a.place)) := by rw [canK, k2]; simp
      rw [ek, e2]
      (conv => whnf)
      cases b1 : decide (0 ≤ objAt m (-1 - a.hand)) with
      | false =>
        (conv => whnf)
        (conv => whnf)
        refine ret0 ?_
        exact ret_b rfl rfl
      | true =>
        (conv => whnf)
        (conv => whnf)
        refine ret0 ?_
        exact ret_b rfl rfl
    · have e2 : (a.kind == 2) = false := by simpa using k2
      have ek : canK m a = false := by rw [canK, decide_eq_false k1, decide_eq_false k2]; rfl
      rw [ek, e2]
      (conv => whnf)
      (conv => whnf)
      refine ret0 ?_
      exact ret_b rfl rfl
theorem ref_SameMode (a b : List Int) (ha : a.length ≤ 4611686018427387904) (hb : b.length ≤ 4611686018427387904) : FnOk Try.prog F.ref36_SameMode [Md a, Md b] [] 0 (Bo (decide (a = b))) [] 0 := by
  refine fnOk tab mix G.ref36_SameMode rfl rfl (by kernel_rfl) rfl rfl ?_
  (conv => whnf)
  refine ask_m (fun h => ?_) (fun h => ?_)
  · (conv => whnf)
    refine ret0 ?_
    exact ret_b (Eq.symm (decide_eq_false fun e => by subst e; simp at h)) rfl
  have hl : a.length = b.length := by simp at h; omega
  (conv => whnf)
  refine loop_intro (fun k : Nat => ⟨[(2, .one (.vptr 0 0)), (3, .one (.vptr 1 0)), (5, I k)], [(0, bMd a), (1, bMd b)], 2⟩) (fun k => k ≤ a.length ∧ a.take k = b.take k) (fun k => a.length - k) [] 0 [] ⟨Nat.zero_le _, rfl⟩ ⟨⟨rfl, rfl, rfl, trivial⟩, ⟨rfl, rfl, trivial⟩⟩ ?_
  rintro k ⟨hk, hall⟩
  have hkk : IntKind.i64.wrap ((k : Int) + 1) = ((k + 1 : Nat) : Int) := by rw [w64] <;> omega
  (conv => whnf)
  refine ask_m (fun h1 => ?_) (fun h1 => ?_)
  · have hlt : k < a.length := by have := of_decide_eq_true h1; simp only [List.length_map] at this; omega
    obtain ⟨x, hx⟩ : ∃ j, a[k]? = some j := ⟨_, List.getElem?_eq_getElem hlt⟩
    obtain ⟨y, hy⟩ : ∃ j, b[k]? = some j := ⟨_, List.getElem?_eq_getElem (by omega)⟩
    (conv => whnf)
    refine idx_and (by omega) (by simpa using hx) ?_
    (conv => whnf)
    refine idx_and (by omega) (by simpa using hy) ?_
    (conv => whnf)
    refine ask_m (fun h2 => ?_) (fun h2 => ?_)
    · have h2 : ¬ x = y := by simpa using h2
      (conv => whnf)
      refine ret0 ?_
      exact ret_b (Eq.symm (decide_eq_false (ne_at hx hy h2))) rfl
    have e : x = y := by simpa using h2
    subst e
    (conv => whnf)
    exact ⟨k + 1, [], ⟨hlt, take_same hall hx hy⟩, by omega, ⟨⟨rfl, rfl, eqI hkk, trivial⟩, ⟨rfl, rfl, trivial⟩⟩⟩
  · have hk : k = a.length := by have := of_decide_eq_false h1; simp only [List.length_map] at this; omega
    subst hk
    rw [List.take_length, hl, List.take_length] at hall
    (conv => whnf)
    refine ret0 ?_
    exact ret_b (decide_eq_true hall).symm rfl
theorem ref_banned (l : List TBan) (m : List Int) (a : TAct) (hl : l.length ≤ 4611686018427387904) (hb : ∀ b ∈ l, b.mode.length ≤ 4611686018427387904) (hm : m.length ≤ 4611686018427387904) : FnOk Try.prog F.ref36_banned [.one (.dv (dBs l)), Md m, Ac a] [] 0 (Bo (bannedB l m a)) [] 0 := by
  refine fnOk tab mix G.ref36_banned rfl rfl (by kernel_rfl) rfl rfl ?_
  (conv => whnf)
  refine loop_intro (fun k : Nat => ⟨[(0, .one (.dv (dBs l))), (4, .one (.vptr 0 0)), (5, .one (.vptr 1 0)), (7, I k)], [(0, bMd m), (1, bAc a)], 2⟩) (fun k => k ≤ l.length ∧ ((l.take k).any fun b => decide (b.act = a) && decide (b.mode = m)) = false) (fun k => l.length - k) [] 0 [] ⟨Nat.zero_le _, rfl⟩ ⟨⟨rfl, rfl, rfl, rfl, trivial⟩, ⟨rfl, rfl, trivial⟩⟩ ?_
  rintro k ⟨hk, hany⟩
  have hkk : IntKind.i64.wrap ((k : Int) + 1) = ((k + 1 : Nat) : Int) := by rw [w64] <;> omega
  (conv => whnf)
  refine ask_m (fun h1 => ?_) (fun h1 => ?_)
  · have hlt : k < l.length := by have := of_decide_eq_true h1; simp only [List.length_map] at this; omega
    obtain ⟨b, hbk⟩ : ∃ j, l[k]? = some j := ⟨_, List.getElem?_eq_getElem hlt⟩
    (conv => whnf)
    refine idx_and (by omega) (by simpa using hbk) ?_
    (conv => whnf)
    refine ⟨cmpAct, ?_⟩
    (conv => whnf)
    rw [act_eq b.act a]
    by_cases h2 : b.act = a
    · rw [decide_eq_true h2]
      (conv => whnf)
      refine idx_and (by omega) (by simpa using hbk) ?_
      (conv => whnf)
      refine call_i (ref_SameMode b.mode m (hb b (List.mem_of_getElem? hbk)) hm) ?_
      (conv => whnf)
      refine ask_m (fun h3 => ?_) (fun h3 => ?_)
      · (conv => whnf)
        refine ret0 ?_
        exact ret_b (any_not hbk (by rw [decide_eq_true h2, h3]; rfl)).symm rfl
      (conv => whnf)
      exact ⟨k + 1, [], ⟨hlt, any_tk hany hbk (by rw [h3]; simp)⟩, by omega, ⟨⟨rfl, rfl, rfl, eqI hkk, trivial⟩, ⟨rfl, rfl, trivial⟩⟩⟩
    · rw [decide_eq_false h2]
      (conv => whnf)
      exact ⟨k + 1, [], ⟨hlt, any_tk hany hbk (by rw [decide_eq_false h2]; rfl)⟩, by omega, ⟨⟨rfl, rfl, rfl, eqI hkk, trivial⟩, ⟨rfl, rfl, trivial⟩⟩⟩
  · have hk : k = l.length := by have := of_decide_eq_false h1; simp only [List.length_map] at this; omega
    subst hk
    rw [List.take_length] at hany
    (conv => whnf)
    refine ret0 ?_
    exact ret_b hany.symm rfl
end Go.Proofs.Ytopcjmipldkijaa

/- ref.Actions, ref.Apply. -/
namespace Go.Proofs.Ytopcjmipldkijaa
open Eng
set_option maxRecDepth 10000
attribute [local irreducible] FnOk loopW idxF retX arrF findF

theorem aRow_succ (w : TWork) (m : List Int) (k : Int) (h c : Nat) : aRow w m k h (c + 1) = aRow w m k h c ++ if canB w m ⟨k, h, c⟩ then [⟨k, h, c⟩] else [] := by
  rw [aRow, List.range_succ, List.map_append, List.filter_append]
  congr 1
  by_cases hc : canB w m ⟨k, h, c⟩ = true
  · rw [if_pos hc]; simp [hc]
  · rw [if_neg hc]; simp [hc]
theorem aHands_succ (w : TWork) (m : List Int) (k : Int) (n : Nat) : aHands w m k (n + 1) = aHands w m k n ++ aRow w m k n w.places.length := by
  rw [aHands, List.range_succ, List.flatMap_append]; simp [aHands]
theorem aRow_len (w : TWork) (m : List Int) (k : Int) (h c : Nat) : (aRow w m k h c).length ≤ c := by
  have := List.length_filter_le (canB w m) ((List.range c).map fun (p : Nat) => (⟨k, (h : Int), (p : Int)⟩ : TAct))
  rw [List.length_map, List.length_range] at this
  exact this
theorem aHands_len {w : TWork} (hp : w.places.length ≤ 8) (m : List Int) (k : Int) : ∀ n, (aHands w m k n).length ≤ 8 * n
  | 0 => Nat.le_refl _
  | n + 1 => by
    rw [aHands_succ, List.length_append]
    have h1 := aHands_len hp m k n
    have h2 := aRow_len w m k n w.places.length
    omega
/-- the actions of the first k kinds -/
def kTo (w : TWork) (m : List Int) : Nat → List TAct
  | 0 => []
  | 1 => aHands w m 1 w.hands.length
  | _ => aHands w m 1 w.hands.length ++ aHands w m 2 w.hands.length
theorem kTo_succ (w : TWork) (m : List Int) {k : Nat} (hk : k < 2) : kTo w m (k + 1) = kTo w m k ++ aHands w m ((1 + k : Nat) : Int) w.hands.length := by
  match k, hk with
  | 0, _ => rfl
  | 1, _ => rfl
theorem kTo_len {w : TWork} (hp : w.places.length ≤ 8) (hh : w.hands.length ≤ 3) (m : List Int) (k : Nat) : (kTo w m k).length ≤ 48 := by
  have h1 := aHands_len hp m 1 w.hands.length
  have h2 := aHands_len hp m 2 w.hands.length
  unfold kTo
  split
  · simp
  · omega
  · rw [List.length_append]; omega
theorem acts_len (w : TWork) (m : List Int) : (actsOf w m).length ≤ 48 := by
  rw [actsOf]
  split
  · rename_i h
    obtain ⟨s1, s2, s3, _⟩ := sizes_facts (valid_iff.1 h).work
    exact kTo_len s2 s3 m 2
  · exact Nat.zero_le _
set_option maxHeartbeats 1000000 in
theorem ref_Actions (w : TWork) (m : List Int) (hm : mild w) : FnOk Try.prog F.ref36_Actions [Wk w, Md m] [] 0 (.one (.dv (dAcs (actsOf w m)))) [] 0 := by
  refine fnOk tab mix G.ref36_Actions rfl rfl (by kernel_rfl) rfl rfl ?_
  (conv => whnf)
  refine call_i (ref_ValidMode w m hm) ?_
  (conv => whnf)
  refine ask_m (fun h1 => ?_) (fun h1 => ?_)
  · have h1 : validB w m = false := by simpa using h1
    rw [actsOf, if_neg (by rw [h1]; decide)]
    (conv => whnf)
    refine retO [.own 4 Y.Action 3, .frz 2] ?_
    (conv => whnf)
    exact ⟨[], ⟨rfl, trivial⟩, trivial⟩
  have h1 : validB w m = true := by simpa using h1
  have hv := valid_iff.1 h1
  obtain ⟨s1, s2, s3, s4⟩ := sizes_facts hv.work
  have hml : m.length ≤ 6 := hv.le6
  rw [actsOf, if_pos h1]
  (conv => whnf)
  refine loop_intro (fun k : Nat => ⟨[(2, .one (.vptr 0 0)), (3, .one (.vptr 1 0)), (5, .one (.row 2)), (6, I ((1 + k : Nat) : Int))], [(0, bWk w), (1, bMd m), (2, .rows Y.Action 3 ((kTo w m k).map encAc))], 3⟩) (fun k => k ≤ 2) (fun k => 2 - k) [.own 5 Y.Action 3] 0 [] (Nat.zero_le _) ⟨⟨rfl, rfl, rfl, rfl, trivial⟩, ⟨rfl, rfl, rfl, trivial⟩⟩ ?_
  rintro k hk
  have hkk : IntKind.i64.wrap (((1 + k : Nat) : Int) + 1) = ((1 + (k + 1) : Nat) : Int) := by rw [w64] <;> omega
  have hkl := kTo_len s2 s3 m k
  (conv => whnf)
  refine ask_m (fun h => ?_) (fun h => ?_)
  · have hlt : k < 2 := by have := of_decide_eq_true h; omega
    (conv => whnf)
    refine loop_intro (fun n : Nat => ⟨[(2, .one (.vptr 0 0)), (3, .one (.vptr 1 0)), (5, .one (.row 2)), (6, I ((1 + k : Nat) : Int)), (7, I n)], [(0, bWk w), (1, bMd m), (2, .rows Y.Action 3 ((kTo w m k ++ aHands w m ((1 + k : Nat) : Int) n).map encAc))], 3⟩) (fun n => n ≤ w.hands.length) (fun n => w.hands.length - n) [] 0 [] (Nat.zero_le _) ⟨⟨rfl, rfl, rfl, rfl, rfl, trivial⟩, ⟨rfl, rfl, rows_eq (by simp [aHands]), trivial⟩⟩ ?_
    rintro n hn
    have hnn : IntKind.i64.wrap ((n : Int) + 1) = ((n + 1 : Nat) : Int) := by rw [w64] <;> omega
    have hnl := aHands_len s2 m ((1 + k : Nat) : Int) n
    (conv => whnf)
    refine ask_m (fun h2 => ?_) (fun h2 => ?_)
    · have hlt2 : n < w.hands.length := by have := of_decide_eq_true h2; simp only [List.length_map] at this; omega
      (conv => whnf)
      refine loop_intro (fun c : Nat => ⟨[(2, .one (.vptr 0 0)), (3, .one (.vptr 1 0)), (5, .one (.row 2)), (6, I ((1 + k : Nat) : Int)), (7, I n), (8, I c)], [(0, bWk w), (1, bMd m), (2, .rows Y.Action 3 ((kTo w m k ++ aHands w m ((1 + k : Nat) : Int) n ++ aRow w m ((1 + k : Nat) : Int) n c).map encAc))], 3⟩) (fun c => c ≤ w.places.length) (fun c => w.places.length - c) [] 0 [] (Nat.zero_le _) ⟨⟨rfl, rfl, rfl, rfl, rfl, rfl, trivial⟩, ⟨rfl, rfl, rows_eq (by simp [aRow]), trivial⟩⟩ ?_
      rintro c hc
      have hcc : IntKind.i64.wrap ((c : Int) + 1) = ((c + 1 : Nat) : Int) := by rw [w64] <;> omega
      have hcl := aRow_len w m ((1 + k : Nat) : Int) n c
      have hrs := aRow_succ w m ((1 + k : Nat) : Int) n c
      (conv => whnf)
      refine ask_m (fun h3 => ?_) (fun h3 => ?_)
      · have hlt3 : c < w.places.length := by have := of_decide_eq_true h3; simp only [List.length_map] at this; omega
        (conv => whnf)
        refine call_i (ref_can w m ⟨((1 + k : Nat) : Int), n, c⟩ ⟨by omega, by omega, by omega⟩ (by omega)) ?_
        (conv => whnf)
        refine ask_m (fun h4 => ?_) (fun h4 => ?_)
        · rw [if_pos h4] at hrs
          (conv => whnf)
          refine ⟨⟨by simp only [List.length_append, List.length_map, List.length_cons, List.length_nil]; omega, by show _ * 24 ≤ _; simp only [List.length_append, List.length_map, List.length_cons, List.length_nil]; omega⟩, ?_⟩
          (conv => whnf)
          exact ⟨c + 1, [(2, 5)], hlt3, by omega, ⟨⟨rfl, rfl, rfl, rfl, rfl, eqI hcc, trivial⟩, ⟨rfl, rfl, rows_eq (by rw [hrs, ← List.append_assoc, List.map_append (l₂ := [_])]; rfl), trivial⟩⟩⟩
        · rw [if_neg (by rw [h4]; decide), List.append_nil] at hrs
          (conv => whnf)
          exact ⟨c + 1, [], hlt3, by omega, ⟨⟨rfl, rfl, rfl, rfl, rfl, eqI hcc, trivial⟩, ⟨rfl, rfl, rows_eq (by rw [hrs]), trivial⟩⟩⟩
      · have hc : c = w.places.length := by have := of_decide_eq_false h3; simp only [List.length_map] at this; omega
        subst hc
        (conv => whnf)
        exact ⟨n + 1, [], hlt2, by omega, ⟨⟨rfl, rfl, rfl, rfl, eqI hnn, trivial⟩, ⟨rfl, rfl, rows_eq (by rw [aHands_succ, List.append_assoc]), trivial⟩⟩⟩
    · have hn : n = w.hands.length := by have := of_decide_eq_false h2; simp only [List.length_map] at this; omega
      subst hn
      (conv => whnf)
      exact ⟨k + 1, [], hlt, by omega, ⟨⟨rfl, rfl, rfl, eqI hkk, trivial⟩, ⟨rfl, rfl, rows_eq (by rw [kTo_succ w m hlt]), trivial⟩⟩⟩
  · have hk : k = 2 := by have := of_decide_eq_false h; omega
    subst hk
    (conv => whnf)
    refine retO [.frz 2] ?_
    (conv => whnf)
    exact ⟨[], ⟨rfl, trivial⟩, trivial⟩
abbrev ApR (m : List Int) (b : Bool) : SV := .tup [(true, [.dv (.lst 1 (m.map encI))]), (false, [.dv (.bool b)])]
theorem apR_eq {l l' : List (List DV)} {b : Bool} (h : l = l') : SV.tup [(true, [.dv (.lst 1 l)]), (false, [.dv (.bool b)])] = SV.tup [(true, [.dv (.lst 1 l')]), (false, [.dv (.bool b)])] := by rw [h]
theorem set_enc (m : List Int) (i : Nat) (v : Int) : (m.map encI).set i [DV.int .i64 v] = (m.set i v).map encI := by rw [List.map_set]; rfl
theorem ref_Apply (w : TWork) (m : List Int) (a : TAct) (hm : mild w) (hl : m.length ≤ 4611686018427387904) : FnOk Try.prog F.ref36_Apply [Wk w, Md m, Ac a] [] 0 (ApR (applyM w m a) (applyB w m a)) [] 0 := by
  refine fnOk tab mix G.ref36_Apply rfl rfl (by kernel_rfl) rfl rfl ?_
  (conv => whnf)
  refine call_i (ref_ValidMode w m hm) ?_
  (conv => whnf)
  refine ask_m (fun h1 => ?_) (fun h1 => ?_)
  · have h1 : validB w m = false := by simpa using h1
    have e : applyB w m a = false := by rw [applyB, h1]; rfl
    rw [applyM, if_neg (by rw [e]; decide), e]
    (conv => whnf)
    refine retO [.ownC 3 0 Y.int 1, .frz 4] ?_
    (conv => whnf)
    exact ⟨[], ⟨rfl, trivial⟩, trivial⟩
  have h1 : validB w m = true := by simpa using h1
  have hv := valid_iff.1 h1
  have hml : m.length ≤ 6 := hv.le6
  obtain ⟨s1, s2, s3, s4⟩ := sizes_facts hv.work
  (conv => whnf)
  refine call_i (ref_can w m a ⟨by omega, by omega, by omega⟩ hl) ?_
  (conv => whnf)
  refine ask_m (fun h2 => ?_) (fun h2 => ?_)
  · have h2 : canB w m a = false := by simpa using h2
    have e : applyB w m a = false := by rw [applyB, h2]; simp
    rw [applyM, if_neg (by rw [e]; decide), e]
    (conv => whnf)
    refine retO [.ownC 3 0 Y.int 1, .frz 4] ?_
    (conv => whnf)
    exact ⟨[], ⟨rfl, trivial⟩, trivial⟩
  have h2 : canB w m a = true := by simpa using h2
  have e : applyB w m a = true := by rw [applyB, h1, h2]; rfl
  rw [applyM, if_pos e, e, setAt]
  obtain ⟨⟨f1, f2, f3, f4⟩, _, hck⟩ := can_facts h2
  have ew : IntKind.i64.wrap (-1 - a.hand) = -1 - a.hand := by rw [w64] <;> omega
  (conv => whnf)
  refine ⟨⟨by simp; omega, by simp; omega⟩, ?_⟩
  (conv => whnf)
  rcases canK_kind hck with ⟨k1, k2, k3⟩ | ⟨k1, k2, k3⟩
  · have e1 : (a.kind == 1) = true := by simpa using k1
    have ef : fromOf a = a.place := if_pos k1
    have et : toOf a = -1 - a.hand := if_pos k1
    rw [ef, et, e1]
    (conv => whnf)
    refine call_i (ref_ObjectAt m a.place (by omega)) ?_
    (conv => whnf)
    rcases objAt_bd m a.place with ⟨o1, _⟩ | ⟨i, o1, o2⟩
    · omega
    have := (List.getElem?_eq_some_iff.1 o1).1
    rw [o2]
    refine ⟨⟨by omega, by simp; omega⟩, ?_⟩
    (conv => whnf)
    rw [Int.toNat_natCast, ew]
    refine idx_at (by rw [List.getElem?_map, o1]; rfl) ?_
    (conv => whnf)
    (conv => whnf)
    refine retO [.frz 4] ?_
    (conv => whnf)
    exact ⟨[], ⟨apR_eq (by first | exact set_enc m i _ | exact (set_enc m i _).symm), trivial⟩, trivial⟩
  · have e1 : (a.kind == 1) = false := by simp [k1]
    have ef : fromOf a = -1 - a.hand := if_neg (by omega)
    have et : toOf a = a.place := if_neg (by omega)
    rw [ef, et, e1]
    (conv => whnf)
    rw [ew]
    refine call_i (ref_ObjectAt m (-1 - a.hand) (by omega)) ?_
    (conv => whnf)
    rcases objAt_bd m (-1 - a.hand) with ⟨o1, _⟩ | ⟨i, o1, o2⟩
    · omega
    have := (List.getElem?_eq_some_iff.1 o1).1
    rw [o2]
    refine ⟨⟨by omega, by simp; omega⟩, ?_⟩
    (conv => whnf)
    rw [Int.toNat_natCast]
    refine idx_at (by rw [List.getElem?_map, o1]; rfl) ?_
    (conv => whnf)
    (conv => whnf)
    refine retO [.frz 4] ?_
    (conv => whnf)
    exact ⟨[], ⟨apR_eq (by first | exact set_enc m i _ | exact (set_enc m i _).symm), trivial⟩, trivial⟩
end Go.Proofs.Ytopcjmipldkijaa

/- task: places, find, meet, placesOf, after. -/
namespace Go.Proofs.Ytopcjmipldkijaa
open Eng
set_option maxRecDepth 10000
attribute [local irreducible] FnOk loopW idxF retX arrF findF

structure P6 where
  a : Int
  b : Int
  c : Int
  d : Int
  e : Int
  f : Int
deriving DecidableEq
def P6.l (p : P6) : List Int := [p.a, p.b, p.c, p.d, p.e, p.f]
def P6.of (l : List Int) : P6 := ⟨l.getD 0 (-1048577), l.getD 1 (-1048577), l.getD 2 (-1048577), l.getD 3 (-1048577), l.getD 4 (-1048577), l.getD 5 (-1048577)⟩
abbrev cP (p : P6) : List CV := [.dv (.int .i64 p.a), .dv (.int .i64 p.b), .dv (.int .i64 p.c), .dv (.int .i64 p.d), .dv (.int .i64 p.e), .dv (.int .i64 p.f)]
def encP (p : P6) : List DV := [.int .i64 p.a, .int .i64 p.b, .int .i64 p.c, .int .i64 p.d, .int .i64 p.e, .int .i64 p.f]
abbrev Pl (p : P6) : SV := .agg (cP p)
abbrev bPl (p : P6) : Box := .vars Y.task_places (cP p)
theorem P6.l_of {l : List Int} (h : l.length ≤ 6) : (P6.of l).l = l ++ List.replicate (6 - l.length) (-1048577) := by
  match l, h with
  | [], _ => rfl
  | [_], _ => rfl
  | [_, _], _ => rfl
  | [_, _, _], _ => rfl
  | [_, _, _, _], _ => rfl
  | [_, _, _, _, _], _ => rfl
  | [_, _, _, _, _, _], _ => rfl
  | _ :: _ :: _ :: _ :: _ :: _ :: _ :: _, h => simp at h
theorem cP_at {p : P6} {i : Nat} {x : Int} (h : p.l[i]? = some x) : (cP p)[i]? = some (.dv (.int .i64 x)) := by
  have : cP p = p.l.map fun x => .dv (.int .i64 x) := rfl
  rw [this, List.getElem?_map, h]; rfl
theorem places_find (p : P6) (x : Int) : FnOk Try.prog F.task_places_find [Pl p, I x] [] 0 (I (idxI x p.l 0)) [] 0 := by
  refine fnOk tab mix G.task_places_find rfl rfl (by kernel_rfl) rfl rfl ?_
  (conv => whnf)
  refine loop_intro (fun k : Nat => ⟨[(1, I x), (7, Pl p), (8, I k)], [], 0⟩) (fun k => k ≤ 6 ∧ idxI x (p.l.drop k) k = idxI x p.l 0) (fun k => 6 - k) [] 0 [] ⟨Nat.zero_le _, rfl⟩ ⟨⟨rfl, rfl, rfl, trivial⟩, trivial⟩ ?_
  rintro k ⟨hk, hf⟩
  have hkk : IntKind.i64.wrap ((k : Int) + 1) = ((k + 1 : Nat) : Int) := by rw [w64] <;> omega
  (conv => whnf)
  refine ask_m (fun h => ?_) (fun h => ?_)
  · have hlt : k < 6 := by have := of_decide_eq_true h; omega
    obtain ⟨y, hy⟩ : ∃ j, p.l[k]? = some j := ⟨_, List.getElem?_eq_getElem (by simp [P6.l]; omega)⟩
    rw [drop_cons hy, idxI] at hf
    (conv => whnf)
    refine ⟨⟨by omega, by omega⟩, ?_⟩
    refine arr_at rfl rfl (by simpa using cP_at hy) ?_
    (conv => whnf)
    refine ask_m (fun h1 => ?_) (fun h1 => ?_)
    · have h1 : y = x := by simpa using h1
      rw [if_pos h1] at hf
      (conv => whnf)
      refine ret0 ?_
      exact ret_i hf rfl
    · have h1 : ¬ y = x := by simpa using h1
      rw [if_neg h1] at hf
      (conv => whnf)
      exact ⟨k + 1, [], ⟨hlt, hf⟩, by omega, ⟨⟨rfl, rfl, eqI hkk, trivial⟩, trivial⟩⟩
  · have hk : k = 6 := by have := of_decide_eq_false h; omega
    subst hk
    (conv => whnf)
    refine ret0 ?_
    exact ret_i hf rfl
theorem places_meet (p : P6) (g : List Int) (hg : g.length ≤ 6) : FnOk Try.prog F.task_places_meet [Pl p, Li g] [] 0 (Bo (meets p.l g)) [] 0 := by
  refine fnOk tab mix G.task_places_meet rfl rfl (by kernel_rfl) rfl rfl ?_
  (conv => whnf)
  refine loop_intro (fun k : Nat => ⟨[(2, .one (.vptr 0 0)), (7, Li g), (8, I g.length), (9, I k)], [(0, bPl p)], 1⟩) (fun k => k ≤ g.length ∧ meets (p.l.drop k) (g.drop k) = meets p.l g) (fun k => g.length - k) [] 0 [] ⟨Nat.zero_le _, rfl⟩ ⟨⟨rfl, rfl, eqI (by simp), rfl, trivial⟩, ⟨rfl, trivial⟩⟩ ?_
  rintro k ⟨hk, hf⟩
  have hkk : IntKind.i64.wrap ((k : Int) + 1) = ((k + 1 : Nat) : Int) := by rw [w64] <;> omega
  (conv => whnf)
  refine ask_m (fun h => ?_) (fun h => ?_)
  · have hlt : k < g.length := by have := of_decide_eq_true h; omega
    obtain ⟨y, hy⟩ : ∃ j, g[k]? = some j := ⟨_, List.getElem?_eq_getElem hlt⟩
    obtain ⟨x, hx⟩ : ∃ j, p.l[k]? = some j := ⟨_, List.getElem?_eq_getElem (by simp [P6.l]; omega)⟩
    rw [meets_drop hx hy] at hf
    (conv => whnf)
    refine idx_and (by omega) (by simpa using hy) ?_
    (conv => whnf)
    cases h1 : y == -1048576 with
    | true =>
      have h1 : y = -1048576 := by simpa using h1
      rw [decide_eq_true h1, Bool.true_or, Bool.true_and] at hf
      have e : (y != -1048576) = false := by simp [h1]
      rw [e]
      (conv => whnf)
      exact ⟨k + 1, [], ⟨hlt, hf⟩, by omega, ⟨⟨rfl, rfl, rfl, eqI hkk, trivial⟩, ⟨rfl, trivial⟩⟩⟩
    | false =>
      have h1 : ¬ y = -1048576 := by simpa using h1
      rw [decide_eq_false h1, Bool.false_or] at hf
      have e : (y != -1048576) = true := by simp [h1]
      rw [e]
      (conv => whnf)
      refine ⟨⟨by omega, by omega⟩, ?_⟩
      have h6 : k = 0 ∨ k = 1 ∨ k = 2 ∨ k = 3 ∨ k = 4 ∨ k = 5 := by omega
      rcases h6 with rfl | rfl | rfl | rfl | rfl | rfl
      all_goals
        simp only [P6.l, List.getElem?_cons_zero, List.getElem?_cons_succ, Option.some.injEq] at hx
        subst hx
        (conv => whnf)
        refine ask_m (fun h2 => ?_) (fun h2 => ?_)
        · have h2 := bne_iff_ne.1 h2
          rw [decide_eq_false h2, Bool.false_and] at hf
          (conv => whnf)
          refine ret0 ?_
          exact ret_b hf rfl
        · have h2 := bne_eq_false_iff_eq.1 h2
          rw [decide_eq_true h2, Bool.true_and] at hf
          (conv => whnf)
          exact ⟨_, [], ⟨hlt, hf⟩, by omega, ⟨⟨rfl, rfl, rfl, eqI hkk, trivial⟩, ⟨rfl, trivial⟩⟩⟩
  · have hk : k = g.length := by have := of_decide_eq_false h; omega
    subst hk
    rw [List.drop_length] at hf
    have hf : true = meets p.l g := by rw [← hf]; cases p.l.drop g.length <;> rfl
    (conv => whnf)
    refine ret0 ?_
    exact ret_b hf rfl
def noth (k : Nat) : List CV := [.dv (.int .i64 (if 0 < k then -1048577 else 0)), .dv (.int .i64 (if 1 < k then -1048577 else 0)), .dv (.int .i64 (if 2 < k then -1048577 else 0)), .dv (.int .i64 (if 3 < k then -1048577 else 0)), .dv (.int .i64 (if 4 < k then -1048577 else 0)), .dv (.int .i64 (if 5 < k then -1048577 else 0))]
theorem copied6 {m : List Int} (h : m.length ≤ 6) : copiedA (noth 6) 6 (m.map encI) = cP (P6.of m) := by
  match m, h with
  | [], _ => rfl
  | [_], _ => rfl
  | [_, _], _ => rfl
  | [_, _, _], _ => rfl
  | [_, _, _, _], _ => rfl
  | [_, _, _, _, _], _ => rfl
  | [_, _, _, _, _, _], _ => rfl
  | _ :: _ :: _ :: _ :: _ :: _ :: _ :: _, h => simp at h
theorem task_placesOf (m : List Int) (hm : m.length ≤ 6) : FnOk Try.prog F.task_placesOf [Md m] [] 0 (Pl (P6.of m)) [] 0 := by
  refine fnOk tab mix G.task_placesOf rfl rfl (by kernel_rfl) rfl rfl ?_
  (conv => whnf)
  refine loop_intro (fun k : Nat => ⟨[(1, .one (.vptr 0 0)), (2, .one (.vptr 1 0)), (3, .one (.vptr 2 0)), (5, I k)], [(0, bMd m), (1, .vars Y.task_places (noth 0)), (2, .vars Y.task_places (noth k))], 3⟩) (fun k => k ≤ 6) (fun k => 6 - k) [] 0 [] (Nat.zero_le _) ⟨⟨rfl, rfl, rfl, rfl, trivial⟩, ⟨rfl, rfl, rfl, trivial⟩⟩ ?_
  rintro k hk
  (conv => whnf)
  refine ask_m (fun h => ?_) (fun h => ?_)
  · have h6 : k = 0 ∨ k = 1 ∨ k = 2 ∨ k = 3 ∨ k = 4 ∨ k = 5 := by have := of_decide_eq_true h; omega
    rcases h6 with rfl | rfl | rfl | rfl | rfl | rfl
    all_goals
      (conv => whnf)
      refine ⟨⟨by decide, by decide⟩, ?_⟩
      (conv => whnf)
    · exact ⟨1, [], by decide, by decide, ⟨⟨rfl, rfl, rfl, rfl, trivial⟩, ⟨rfl, rfl, rfl, trivial⟩⟩⟩
    · exact ⟨2, [], by decide, by decide, ⟨⟨rfl, rfl, rfl, rfl, trivial⟩, ⟨rfl, rfl, rfl, trivial⟩⟩⟩
    · exact ⟨3, [], by decide, by decide, ⟨⟨rfl, rfl, rfl, rfl, trivial⟩, ⟨rfl, rfl, rfl, trivial⟩⟩⟩
    · exact ⟨4, [], by decide, by decide, ⟨⟨rfl, rfl, rfl, rfl, trivial⟩, ⟨rfl, rfl, rfl, trivial⟩⟩⟩
    · exact ⟨5, [], by decide, by decide, ⟨⟨rfl, rfl, rfl, rfl, trivial⟩, ⟨rfl, rfl, rfl, trivial⟩⟩⟩
    · exact ⟨6, [], by decide, by decide, ⟨⟨rfl, rfl, rfl, rfl, trivial⟩, ⟨rfl, rfl, rfl, trivial⟩⟩⟩
  · have hk : k = 6 := by have := of_decide_eq_false h; omega
    subst hk
    (conv => whnf)
    refine .inr ?_
    (conv => whnf)
    refine ⟨by decide, ?_⟩
    rw [copied6 hm]
    (conv => whnf)
    (conv => whnf)
    refine ret0 ?_
    exact ⟨[], ⟨rfl, trivial⟩, trivial⟩
/-- an action done -/
def afterP (p : P6) (a : TAct) : P6 := P6.of (p.l.set (idxI (fromOf a) p.l 0).toNat (toOf a))
theorem task_after (p : P6) (a : TAct) (hh : 0 ≤ a.hand ∧ a.hand ≤ 1000) (hk : a.kind = 1 ∨ a.kind = 2) (hi : 0 ≤ idxI (fromOf a) p.l 0) : FnOk Try.prog F.task_after [Pl p, Ac a] [] 0 (Pl (afterP p a)) [] 0 := by
  have ew : IntKind.i64.wrap (-1 - a.hand) = -1 - a.hand := by rw [w64] <;> omega
  have key : ∃ i : Nat, i < 6 ∧ idxI (fromOf a) p.l 0 = i := by
    rcases idxI_bd (fromOf a) p.l 0 with ⟨h1, _⟩ | ⟨i, h1, h2⟩
    · omega
    · have := (List.getElem?_eq_some_iff.1 h1).1
      exact ⟨i, by simpa [P6.l] using this, by rw [h2, Nat.zero_add]⟩
  obtain ⟨i, hi6, hie⟩ := key
  have hf := places_find p (fromOf a)
  rw [afterP, hie, Int.toNat_natCast]
  rw [hie] at hf
  have h6 : i = 0 ∨ i = 1 ∨ i = 2 ∨ i = 3 ∨ i = 4 ∨ i = 5 := by omega
  refine fnOk tab mix G.task_after rfl rfl (by kernel_rfl) rfl rfl ?_
  (conv => whnf)
  rw [ew]
  rcases hk with hk | hk
  · have e1 : (a.kind == 2) = false := by simp [hk]
    have ef : fromOf a = a.place := if_pos hk
    have et : toOf a = -1 - a.hand := if_pos hk
    rw [ef] at hf
    rw [et, e1]
    (conv => whnf)
    refine call_i (hf) ?_
    (conv => whnf)
    rcases h6 with rfl | rfl | rfl | rfl | rfl | rfl
    all_goals
      refine ⟨⟨by decide, by decide⟩, ?_⟩
      (conv => whnf)
      (conv => whnf)
      refine ret0 ?_
      exact ⟨[], ⟨rfl, trivial⟩, trivial⟩
  · have e1 : (a.kind == 2) = true := by simp [hk]
    have ef : fromOf a = -1 - a.hand := if_neg (by omega)
    have et : toOf a = a.place := if_neg (by omega)
    rw [ef] at hf
    rw [et, e1]
    (conv => whnf)
    refine call_i (hf) ?_
    (conv => whnf)
    rcases h6 with rfl | rfl | rfl | rfl | rfl | rfl
    all_goals
      refine ⟨⟨by decide, by decide⟩, ?_⟩
      (conv => whnf)
      (conv => whnf)
      refine ret0 ?_
      exact ⟨[], ⟨rfl, trivial⟩, trivial⟩
end Go.Proofs.Ytopcjmipldkijaa

/- task: the table, actions. -/
namespace Go.Proofs.Ytopcjmipldkijaa
open Eng
set_option maxRecDepth 10000
attribute [local irreducible] FnOk loopW idxF retX arrF findF

def gripAt (h p : Int) (g : TGrip) : Bool := decide (g.hand = h) && decide (g.place = p)
abbrev mHP (h p : Int) : List (Nat × Box) := [(0, .vars Y.int [.dv (.int .i64 h)]), (1, .vars Y.int [.dv (.int .i64 p)])]
abbrev Gr (g : TGrip) : SV := .agg [.dv (.int .i64 g.hand), .dv (.int .i64 g.place), .dv (.lst 1 (g.at_.map encI))]
theorem task_newTable_1 (g : TGrip) (h p : Int) : FnOk Try.prog F.task_newTable_1 [Gr g, .one (.vptr 0 0), .one (.vptr 1 0)] (mHP h p) 2 (Bo (gripAt h p g)) (mHP h p) 2 := by
  rw [gripAt]
  refine fnOk tab mix G.task_newTable_1 rfl rfl (by kernel_rfl) rfl rfl ?_
  (conv => whnf)
  by_cases h1 : g.hand = h
  · have e : (g.hand == h) = true := by simpa using h1
    rw [decide_eq_true h1, Bool.true_and, e]
    (conv => whnf)
    have e2 : (g.place == p) = decide (g.place = p) := by rw [Bool.eq_iff_iff]; simp
    rw [e2]
    (conv => whnf)
    refine ret0 ?_
    exact ⟨[], ⟨rfl, trivial⟩, ⟨rfl, rfl, trivial⟩⟩
  · have e : (g.hand == h) = false := by simpa using h1
    rw [decide_eq_false h1, Bool.false_and, e]
    (conv => whnf)
    (conv => whnf)
    refine ret0 ?_
    exact ⟨[], ⟨rfl, trivial⟩, ⟨rfl, rfl, trivial⟩⟩
abbrev FnT : SV := .one (.fn F.task_newTable_1 [(0, 0), (1, 0)])
theorem grip_IndexFunc (l : List TGrip) (h p : Int) (hl : l.length ≤ 4611686018427387904) : FnOk Try.prog F.slices_IndexFunc_sapi_Grip_api_Grip [.one (.dv (dGs l)), FnT] (mHP h p) 2 (I (firstP (gripAt h p) l 0)) (mHP h p) 2 := by
  refine fnOk tab mix G.slices_IndexFunc_sapi_Grip_api_Grip rfl rfl (by kernel_rfl) rfl rfl ?_
  (conv => whnf)
  refine loop_intro (fun k : Nat => ⟨[(0, .one (.dv (dGs l))), (1, FnT), (7, I l.length), (8, I k)], mHP h p, 2⟩) (fun k => k ≤ l.length ∧ firstP (gripAt h p) (l.drop k) k = firstP (gripAt h p) l 0) (fun k => l.length - k) [] 0 [] ⟨Nat.zero_le _, rfl⟩ ⟨⟨rfl, rfl, eqI (by simp), rfl, trivial⟩, ⟨rfl, rfl, trivial⟩⟩ ?_
  rintro k ⟨hk, hf⟩
  have hkk : IntKind.i64.wrap ((k : Int) + 1) = ((k + 1 : Nat) : Int) := by rw [w64] <;> omega
  (conv => whnf)
  refine ask_m (fun h1 => ?_) (fun h1 => ?_)
  · have hlt : k < l.length := by have := of_decide_eq_true h1; omega
    obtain ⟨g, hg⟩ : ∃ j, l[k]? = some j := ⟨_, List.getElem?_eq_getElem hlt⟩
    rw [drop_cons hg, firstP] at hf
    (conv => whnf)
    refine idx_and (by omega) (by simpa using hg) ?_
    (conv => whnf)
    refine call_i (task_newTable_1 g h p) ?_
    (conv => whnf)
    refine ask_m (fun h2 => ?_) (fun h2 => ?_)
    · rw [if_pos h2] at hf
      rw [← hf]
      (conv => whnf)
      refine ret0 ?_
      exact ⟨[], ⟨rfl, trivial⟩, ⟨rfl, rfl, trivial⟩⟩
    · rw [if_neg (by rw [h2]; decide)] at hf
      (conv => whnf)
      exact ⟨k + 1, [], ⟨hlt, hf⟩, by omega, ⟨⟨rfl, rfl, rfl, eqI hkk, trivial⟩, ⟨rfl, rfl, trivial⟩⟩⟩
  · have hk : k = l.length := by have := of_decide_eq_false h1; omega
    subst hk
    rw [List.drop_length, firstP] at hf
    rw [← hf]
    (conv => whnf)
    refine ret0 ?_
    exact ⟨[], ⟨rfl, trivial⟩, ⟨rfl, rfl, trivial⟩⟩
theorem grip_ContainsFunc (l : List TGrip) (h p : Int) (hl : l.length ≤ 4611686018427387904) : FnOk Try.prog F.slices_ContainsFunc_sapi_Grip_api_Grip [.one (.dv (dGs l)), FnT] (mHP h p) 2 (Bo (l.any (gripAt h p))) (mHP h p) 2 := by
  refine fnOk tab mix G.slices_ContainsFunc_sapi_Grip_api_Grip rfl rfl (by kernel_rfl) rfl rfl ?_
  (conv => whnf)
  rw [← firstP_any (gripAt h p) l 0]
  (conv => whnf)
  refine call_i (grip_IndexFunc l h p hl) ?_
  (conv => whnf)
  (conv => whnf)
  refine ret0 ?_
  exact ⟨[], ⟨rfl, trivial⟩, ⟨rfl, rfl, trivial⟩⟩
/-- the table of a hand, its places below c; of the hands below n -/
def tRow (w : TWork) (h c : Nat) : List TAct := ((List.range c).filter fun (p : Nat) => gripped w h p).map fun (p : Nat) => ⟨0, (h : Int), (p : Int)⟩
def tHands (w : TWork) (n : Nat) : List TAct := (List.range n).flatMap fun h => tRow w h w.places.length
def tableOf (w : TWork) : List TAct := tHands w w.hands.length
theorem tRow_succ (w : TWork) (h c : Nat) : tRow w h (c + 1) = tRow w h c ++ if gripped w h c then [⟨0, h, c⟩] else [] := by
  rw [tRow, List.range_succ, List.filter_append, List.map_append]
  congr 1
  by_cases hc : gripped w h c = true
  · rw [if_pos hc]; simp [hc]
  · rw [if_neg hc]; simp [hc]
theorem tHands_succ (w : TWork) (n : Nat) : tHands w (n + 1) = tHands w n ++ tRow w n w.places.length := by
  rw [tHands, List.range_succ, List.flatMap_append]; simp [tHands]
theorem tRow_len (w : TWork) (h c : Nat) : (tRow w h c).length ≤ c := by
  have := List.length_filter_le (fun (p : Nat) => gripped w h p) (List.range c)
  rw [List.length_range] at this
  rw [tRow, List.length_map]; exact this
theorem tHands_len {w : TWork} (hp : w.places.length ≤ 8) : ∀ n, (tHands w n).length ≤ 8 * n
  | 0 => Nat.le_refl _
  | n + 1 => by
    rw [tHands_succ, List.length_append]
    have h1 := tHands_len hp n
    have h2 := tRow_len w n w.places.length
    omega
theorem mem_tRow {w : TWork} {h c : Nat} {a : TAct} (ha : a ∈ tRow w h c) : a.kind = 0 ∧ a.hand = h ∧ 0 ≤ a.place ∧ a.place < c ∧ gripped w a.hand a.place = true := by
  rw [tRow, List.mem_map] at ha
  obtain ⟨p, hp, rfl⟩ := ha
  rw [List.mem_filter, List.mem_range] at hp
  exact ⟨rfl, rfl, by simp, by simp; omega, hp.2⟩
theorem mem_table {w : TWork} {a : TAct} (ha : a ∈ tableOf w) : a.kind = 0 ∧ 0 ≤ a.hand ∧ a.hand < w.hands.length ∧ 0 ≤ a.place ∧ a.place < w.places.length := by
  rw [tableOf, tHands, List.mem_flatMap] at ha
  obtain ⟨h, hh, ha⟩ := ha
  have := mem_tRow ha
  have := List.mem_range.1 hh
  omega
set_option maxHeartbeats 1000000 in
theorem task_newTable (w : TWork) (hp : w.places.length ≤ 8) (hh : w.hands.length ≤ 3) (hg : w.grips.length ≤ 1000) : FnOk Try.prog F.task_newTable [Wk w] [] 0 (.one (.dv (dAcs (tableOf w)))) [] 0 := by
  refine fnOk tab mix G.task_newTable rfl rfl (by kernel_rfl) rfl rfl ?_
  (conv => whnf)
  refine loop_intro (fun n : Nat => ⟨[(1, .one (.vptr 0 0)), (3, .one (.row 1)), (9, I w.hands.length), (10, I n)], [(0, bWk w), (1, .rows Y.Action 3 ((tHands w n).map encAc))], 2⟩) (fun n => n ≤ w.hands.length) (fun n => w.hands.length - n) [.own 3 Y.Action 3] 0 [] (Nat.zero_le _) ⟨⟨rfl, rfl, eqI (by simp), rfl, trivial⟩, ⟨rfl, rfl, trivial⟩⟩ ?_
  rintro n hn
  have hnn : IntKind.i64.wrap ((n : Int) + 1) = ((n + 1 : Nat) : Int) := by rw [w64] <;> omega
  have hnl := tHands_len hp n
  (conv => whnf)
  refine ask_m (fun h2 => ?_) (fun h2 => ?_)
  · have hlt2 : n < w.hands.length := by have := of_decide_eq_true h2; omega
    (conv => whnf)
    refine loop_intro (fun c : Nat => ⟨[(1, .one (.vptr 0 0)), (3, .one (.row 1)), (4, .one (.vptr 2 0)), (9, I w.hands.length), (10, I n), (15, I w.places.length), (16, I c)], [(0, bWk w), (1, .rows Y.Action 3 ((tHands w n ++ tRow w n c).map encAc)), (2, .vars Y.int [.dv (.int .i64 n)])], 3⟩) (fun c => c ≤ w.places.length) (fun c => w.places.length - c) [] 0 [] (Nat.zero_le _) ⟨⟨rfl, rfl, rfl, rfl, rfl, eqI (by simp), rfl, trivial⟩, ⟨rfl, rows_eq (by simp [tRow]), rfl, trivial⟩⟩ ?_
    rintro c hc
    have hcc : IntKind.i64.wrap ((c : Int) + 1) = ((c + 1 : Nat) : Int) := by rw [w64] <;> omega
    have hcl := tRow_len w n c
    have hrs := tRow_succ w n c
    (conv => whnf)
    refine ask_m (fun h3 => ?_) (fun h3 => ?_)
    · have hlt3 : c < w.places.length := by have := of_decide_eq_true h3; omega
      (conv => whnf)
      refine call_i (grip_ContainsFunc w.grips n c (by omega)) ?_
      (conv => whnf)
      have eg : w.grips.any (gripAt n c) = gripped w n c := rfl
      rw [eg]
      refine ask_m (fun h4 => ?_) (fun h4 => ?_)
      · rw [if_pos h4] at hrs
        (conv => whnf)
        refine ⟨⟨by simp only [List.length_append, List.length_map, List.length_cons, List.length_nil]; omega, by show _ * 24 ≤ _; simp only [List.length_append, List.length_map, List.length_cons, List.length_nil]; omega⟩, ?_⟩
        (conv => whnf)
        exact ⟨c + 1, [(1, 5)], hlt3, by omega, ⟨⟨rfl, rfl, rfl, rfl, rfl, rfl, eqI hcc, trivial⟩, ⟨rfl, rows_eq (by rw [hrs, ← List.append_assoc, List.map_append (l₂ := [_])]; rfl), rfl, trivial⟩⟩⟩
      · rw [if_neg (by rw [h4]; decide), List.append_nil] at hrs
        (conv => whnf)
        exact ⟨c + 1, [], hlt3, by omega, ⟨⟨rfl, rfl, rfl, rfl, rfl, rfl, eqI hcc, trivial⟩, ⟨rfl, rows_eq (by rw [hrs]), rfl, trivial⟩⟩⟩
    · have hc : c = w.places.length := by have := of_decide_eq_false h3; omega
      subst hc
      (conv => whnf)
      exact ⟨n + 1, [], hlt2, by omega, ⟨⟨rfl, rfl, rfl, eqI hnn, trivial⟩, ⟨rfl, rows_eq (by rw [tHands_succ]), trivial⟩⟩⟩
  · have hn : n = w.hands.length := by have := of_decide_eq_false h2; omega
    subst hn
    (conv => whnf)
    refine retO [.frz 1] ?_
    (conv => whnf)
    exact ⟨[], ⟨rfl, trivial⟩, trivial⟩

/- what can be done, by the table -/
def pickB (l : List Int) (a : TAct) : Bool := decide (idxI (-1 - a.hand) l 0 < 0) && decide (0 ≤ idxI a.place l 0)
def dropB (l : List Int) (a : TAct) : Bool := decide (0 ≤ idxI (-1 - a.hand) l 0) && decide (idxI a.place l 0 < 0)
def withK (k : Int) (a : TAct) : TAct := ⟨k, a.hand, a.place⟩
def doneT (k : Int) (p : TAct → Bool) (tb : List TAct) : List TAct := (tb.filter p).map (withK k)
def actsT (tb : List TAct) (l : List Int) : List TAct := doneT 1 (pickB l) tb ++ doneT 2 (dropB l) tb
theorem doneT_take {k : Int} {p : TAct → Bool} {tb : List TAct} {i : Nat} {a : TAct} (h : tb[i]? = some a) : doneT k p (tb.take (i + 1)) = doneT k p (tb.take i) ++ if p a then [withK k a] else [] := by
  have : tb.take (i + 1) = tb.take i ++ [a] := by simpa using map_take1 id h
  rw [this, doneT, List.filter_append, List.map_append]
  congr 1
  by_cases hc : p a = true
  · rw [if_pos hc]; simp [hc]
  · rw [if_neg hc]; simp [hc]
theorem doneT_len (k : Int) (p : TAct → Bool) (tb : List TAct) : (doneT k p tb).length ≤ tb.length := by
  rw [doneT, List.length_map]; exact List.length_filter_le _ _
set_option maxHeartbeats 1000000 in
theorem table_actions (tb : List TAct) (p : P6) (hl : tb.length ≤ 1000) (ht : ∀ a ∈ tb, 0 ≤ a.hand ∧ a.hand ≤ 1000) : FnOk Try.prog F.task_table_actions [.one (.dv (dAcs tb)), Pl p] [] 0 (.one (.row 0)) [(0, .rows Y.Action 3 ((actsT tb p.l).map encAc))] 1 := by
  refine fnOk tab mix G.task_table_actions rfl rfl (by kernel_rfl) rfl rfl ?_
  (conv => whnf)
  refine loop_intro (fun k : Nat => ⟨[(0, .one (.dv (dAcs tb))), (3, .one (.vptr 0 0)), (5, .one (.row 1)), (10, .one (.dv (dAcs tb))), (11, I tb.length), (12, I k)], [(0, bPl p), (1, .rows Y.Action 3 ((doneT 1 (pickB p.l) (tb.take k)).map encAc))], 2⟩) (fun k => k ≤ tb.length) (fun k => tb.length - k) [.own 5 Y.Action 3] 0 [] (Nat.zero_le _) ⟨⟨rfl, rfl, rfl, rfl, eqI (by simp), rfl, trivial⟩, ⟨rfl, rfl, trivial⟩⟩ ?_
  rintro k hk
  have hkk : IntKind.i64.wrap ((k : Int) + 1) = ((k + 1 : Nat) : Int) := by rw [w64] <;> omega
  have hd := doneT_len 1 (pickB p.l) (tb.take k)
  rw [List.length_take] at hd
  (conv => whnf)
  refine ask_m (fun h => ?_) (fun h => ?_)
  · have hlt : k < tb.length := by have := of_decide_eq_true h; omega
    obtain ⟨a, ha⟩ : ∃ j, tb[k]? = some j := ⟨_, List.getElem?_eq_getElem hlt⟩
    have hah := ht a (List.mem_of_getElem? ha)
    have ew : IntKind.i64.wrap (-1 - a.hand) = -1 - a.hand := by rw [w64] <;> omega
    have hst := doneT_take (k := 1) (p := pickB p.l) ha
    (conv => whnf)
    refine idx_and (by omega) (by simpa using ha) ?_
    (conv => whnf)
    rw [ew]
    refine call_i (places_find p (-1 - a.hand)) ?_
    (conv => whnf)
    cases b1 : decide (idxI (-1 - a.hand) p.l 0 < 0) with
    | false =>
      rw [if_neg (by rw [pickB, b1]; simp), List.append_nil] at hst
      (conv => whnf)
      exact ⟨k + 1, [], hlt, by omega, ⟨⟨rfl, rfl, rfl, rfl, rfl, eqI hkk, trivial⟩, ⟨rfl, rows_eq (by rw [hst]), trivial⟩⟩⟩
    | true =>
      (conv => whnf)
      refine call_i (places_find p a.place) ?_
      (conv => whnf)
      refine ask_m (fun b2 => ?_) (fun b2 => ?_)
      · rw [if_pos (by rw [pickB, b1, b2]; rfl)] at hst
        (conv => whnf)
        refine ⟨⟨by simp only [List.length_append, List.length_map, List.length_cons, List.length_nil]; omega, by show _ * 24 ≤ _; simp only [List.length_append, List.length_map, List.length_cons, List.length_nil]; omega⟩, ?_⟩
        (conv => whnf)
        exact ⟨k + 1, [(1, 4)], hlt, by omega, ⟨⟨rfl, rfl, rfl, rfl, rfl, eqI hkk, trivial⟩, ⟨rfl, rows_eq (by rw [hst, List.map_append]; rfl), trivial⟩⟩⟩
      · rw [if_neg (by rw [pickB, b2]; simp), List.append_nil] at hst
        (conv => whnf)
        exact ⟨k + 1, [], hlt, by omega, ⟨⟨rfl, rfl, rfl, rfl, rfl, eqI hkk, trivial⟩, ⟨rfl, rows_eq (by rw [hst]), trivial⟩⟩⟩
  have hk : k = tb.length := by have := of_decide_eq_false h; omega
  subst hk
  rw [List.take_length] at hd ⊢
  clear hkk h
  (conv => whnf)
  refine loop_intro (fun k : Nat => ⟨[(3, .one (.vptr 0 0)), (5, .one (.row 1)), (35, .one (.dv (dAcs tb))), (36, I tb.length), (37, I k)], [(0, bPl p), (1, .rows Y.Action 3 ((doneT 1 (pickB p.l) tb ++ doneT 2 (dropB p.l) (tb.take k)).map encAc))], 2⟩) (fun k => k ≤ tb.length) (fun k => tb.length - k) [] 0 [] (Nat.zero_le _) ⟨⟨rfl, rfl, rfl, eqI (by simp), rfl, trivial⟩, ⟨rfl, rows_eq (by simp [doneT]), trivial⟩⟩ ?_
  rintro k hk
  have hkk : IntKind.i64.wrap ((k : Int) + 1) = ((k + 1 : Nat) : Int) := by rw [w64] <;> omega
  have hd2 := doneT_len 2 (dropB p.l) (tb.take k)
  rw [List.length_take] at hd2
  (conv => whnf)
  refine ask_m (fun h => ?_) (fun h => ?_)
  · have hlt : k < tb.length := by have := of_decide_eq_true h; omega
    obtain ⟨a, ha⟩ : ∃ j, tb[k]? = some j := ⟨_, List.getElem?_eq_getElem hlt⟩
    have hah := ht a (List.mem_of_getElem? ha)
    have ew : IntKind.i64.wrap (-1 - a.hand) = -1 - a.hand := by rw [w64] <;> omega
    have hst := doneT_take (k := 2) (p := dropB p.l) ha
    (conv => whnf)
    refine idx_and (by omega) (by simpa using ha) ?_
    (conv => whnf)
    rw [ew]
    refine call_i (places_find p (-1 - a.hand)) ?_
    (conv => whnf)
    cases b1 : decide (0 ≤ idxI (-1 - a.hand) p.l 0) with
    | false =>
      rw [if_neg (by rw [dropB, b1]; simp), List.append_nil] at hst
      (conv => whnf)
      exact ⟨k + 1, [], hlt, by omega, ⟨⟨rfl, rfl, rfl, rfl, eqI hkk, trivial⟩, ⟨rfl, rows_eq (by rw [hst]), trivial⟩⟩⟩
    | true =>
      (conv => whnf)
      refine call_i (places_find p a.place) ?_
      (conv => whnf)
      refine ask_m (fun b2 => ?_) (fun b2 => ?_)
      · rw [if_pos (by rw [dropB, b1, b2]; rfl)] at hst
        (conv => whnf)
        refine ⟨⟨by simp only [List.length_append, List.length_map, List.length_cons, List.length_nil]; omega, by show _ * 24 ≤ _; simp only [List.length_append, List.length_map, List.length_cons, List.length_nil]; omega⟩, ?_⟩
        (conv => whnf)
        exact ⟨k + 1, [(1, 4)], hlt, by omega, ⟨⟨rfl, rfl, rfl, rfl, eqI hkk, trivial⟩, ⟨rfl, rows_eq (by rw [hst, ← List.append_assoc, List.map_append (l₂ := [_])]; rfl), trivial⟩⟩⟩
      · rw [if_neg (by rw [dropB, b2]; simp), List.append_nil] at hst
        (conv => whnf)
        exact ⟨k + 1, [], hlt, by omega, ⟨⟨rfl, rfl, rfl, rfl, eqI hkk, trivial⟩, ⟨rfl, rows_eq (by rw [hst]), trivial⟩⟩⟩
  · have hk : k = tb.length := by have := of_decide_eq_false h; omega
    subst hk
    rw [List.take_length]
    (conv => whnf)
    refine retO [] ?_
    (conv => whnf)
    exact ⟨[(0, 1)], ⟨rfl, trivial⟩, ⟨rfl, trivial⟩⟩
end Go.Proofs.Ytopcjmipldkijaa
