/- Robots and scenes as data, and what the chapters 8 and 9 ask of them, in plain Lean. -/
import Derived.Test.YtgnblfojpcjgmaaBa
namespace Go.Proofs.Ytgnblfojpcjgmaa
open Eng
set_option maxRecDepth 10000

structure Vec where
  x : Int
  y : Int
  z : Int
deriving DecidableEq
structure Joint where
  name : ByteArray
  kind : Int
  parent : Int
  off : Vec
  lo : Int
  hi : Int
  weight : Int
  speed : Int
  accel : Int
  torque : Int
structure Mass where
  link : Int
  mass : Int
  point : Vec
structure Shape where
  link : Int
  radius : Int
  points : List Vec
structure Skip where
  a : Int
  b : Int
deriving DecidableEq
structure Robot where
  joints : List Joint
  masses : List Mass
structure Scene where
  robot : Robot
  shapes : List Shape
  skips : List Skip
structure Pair where
  a : Int
  b : Int
deriving DecidableEq
def encV (v : Vec) : List DV := [.int .i64 v.x, .int .i64 v.y, .int .i64 v.z]
def encJ (j : Joint) : List DV := [.str j.name, .int .i64 j.kind, .int .i64 j.parent, .int .i64 j.off.x, .int .i64 j.off.y, .int .i64 j.off.z, .int .i64 j.lo, .int .i64 j.hi, .int .i64 j.weight, .int .i64 j.speed, .int .i64 j.accel, .int .i64 j.torque]
def encM (m : Mass) : List DV := [.int .i64 m.link, .int .i64 m.mass, .int .i64 m.point.x, .int .i64 m.point.y, .int .i64 m.point.z]
def encSh (s : Shape) : List DV := [.int .i64 s.link, .int .i64 s.radius, .lst 3 (s.points.map encV)]
def encSk (s : Skip) : List DV := [.int .i64 s.a, .int .i64 s.b]
def encPa (s : Pair) : List DV := [.int .i64 s.a, .int .i64 s.b]
abbrev dJs (js : List Joint) : DV := .lst 12 (js.map encJ)
abbrev dMs (ms : List Mass) : DV := .lst 5 (ms.map encM)
abbrev dShs (ss : List Shape) : DV := .lst 3 (ss.map encSh)
abbrev dSks (ss : List Skip) : DV := .lst 2 (ss.map encSk)
abbrev Ro (r : Robot) : SV := .agg [.dv (dJs r.joints), .dv (dMs r.masses)]
abbrev Sc (s : Scene) : SV := .agg [.dv (dJs s.robot.joints), .dv (dMs s.robot.masses), .dv (dShs s.shapes), .dv (dSks s.skips)]
abbrev Ve (v : Vec) : SV := .agg [.dv (.int .i64 v.x), .dv (.int .i64 v.y), .dv (.int .i64 v.z)]

abbrev Ma (m : Mass) : SV := .agg [.dv (.int .i64 m.link), .dv (.int .i64 m.mass), .dv (.int .i64 m.point.x), .dv (.int .i64 m.point.y), .dv (.int .i64 m.point.z)]
abbrev Sh (s : Shape) : SV := .agg [.dv (.int .i64 s.link), .dv (.int .i64 s.radius), .dv (.lst 3 (s.points.map encV))]
abbrev dVs (l : List Vec) : DV := .lst 3 (l.map encV)
def small (s : Scene) : Prop := s.robot.joints.length ≤ 4611686018427387904 ∧ s.robot.masses.length ≤ 4611686018427387904 ∧ s.shapes.length ≤ 4611686018427387904 ∧ s.skips.length ≤ 4611686018427387904 ∧ ∀ x ∈ s.shapes, x.points.length ≤ 4611686018427387904

/- names -/
def letterB (c : Int) : Bool := decide (97 ≤ c) && decide (c ≤ 122)
def digitB (c : Int) : Bool := decide (48 ≤ c) && decide (c ≤ 57)
def nameB (i : Nat) (c : Int) : Bool := letterB c || (decide (i ≠ 0) && (digitB c || decide (c = 95)))
def worldT : ByteArray := ⟨#[119, 111, 114, 108, 100]⟩
def nameOk (s : ByteArray) : Bool := decide (1 ≤ s.size) && decide (s.size ≤ 16) && !decide (s = worldT) && (List.range s.size).all fun i => nameB i (byteAt s i)

/- joints -/
def find : List Joint → ByteArray → Nat → Int
  | [], _, _ => -1
  | j :: js, n, k => if j.name = n then k else find js n (k + 1)
def inV (v : Vec) (m : Int) : Bool := (decide (-m ≤ v.x) && decide (v.x ≤ m)) && (decide (-m ≤ v.y) && decide (v.y ≤ m)) && (decide (-m ≤ v.z) && decide (v.z ≤ m))
def reach (k : Int) : Int := if k = 1 ∨ k = 2 ∨ k = 3 then 524288 else if k = 4 ∨ k = 5 ∨ k = 6 then 4194304 else 0
def from1 (x m : Int) : Bool := decide (1 ≤ x) && decide (x ≤ m)
def jointErr (js : List Joint) (i : Nat) (j : Joint) : Int :=
  if nameOk j.name = false ∨ find js j.name 0 ≠ i then 802
  else if j.kind < 0 ∨ 6 < j.kind then 803
  else if j.parent < -1 ∨ (i : Int) ≤ j.parent then 804
  else if inV j.off 4194304 = false then 805
  else if j.hi < j.lo ∨ j.lo < - reach j.kind ∨ reach j.kind < j.hi then 806
  else if (from1 j.weight 1024 && from1 j.speed 1048576 && from1 j.accel 1048576 && from1 j.torque 1099511627776) = false then 807
  else 0
def jointsErr (js : List Joint) : Nat → List Joint → Int
  | _, [] => 0
  | i, j :: rest => if jointErr js i j = 0 then jointsErr js (i + 1) rest else jointErr js i j
def massOk (n : Nat) (m : Mass) : Bool := decide (0 ≤ m.link) && decide (m.link < n) && from1 m.mass 65536 && inV m.point 4194304
def checkRobot (r : Robot) : Int :=
  if r.joints.length = 0 ∨ 10 < r.joints.length then 801
  else if jointsErr r.joints 0 r.joints ≠ 0 then jointsErr r.joints 0 r.joints
  else if 32 < r.masses.length ∨ r.masses.all (massOk r.joints.length) = false then 808
  else 0
def linkOk (n : Nat) (k : Int) : Bool := decide (-1 ≤ k) && decide (k < n)
def shapeErr (n : Nat) (s : Shape) : Int :=
  if linkOk n s.link = false ∨ s.radius < 1 ∨ 1048576 < s.radius ∨ s.points.length < 1 ∨ 8 < s.points.length then 902
  else if s.points.all (inV · 4194304) = false then 805
  else 0
def shapesErr (n : Nat) : List Shape → Int
  | [] => 0
  | s :: rest => if shapeErr n s = 0 then shapesErr n rest else shapeErr n s
def skipOk (n : Nat) (k : Skip) : Bool := linkOk n k.a && linkOk n k.b
def checkScene (s : Scene) : Int :=
  if checkRobot s.robot ≠ 0 then checkRobot s.robot
  else if 24 < s.shapes.length then 901
  else if shapesErr s.robot.joints.length s.shapes ≠ 0 then shapesErr s.robot.joints.length s.shapes
  else if 64 < s.skips.length then 903
  else if (s.skips.all fun k => linkOk s.robot.joints.length k.a && linkOk s.robot.joints.length k.b) = false then 903
  else 0
end Go.Proofs.Ytgnblfojpcjgmaa
