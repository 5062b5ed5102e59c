import Derived.Test.YtafglmjadbplcaaGreatDoorNm
import Derived.Test.YtafglmjadbplcaaGreatDoorEngG
import Derived.Laws.RangeAny
import Derived.Lib.Walk
import Derived.Lib.Bytealg
/- Common ground for a seat's walks: integers, lists, texts. -/
namespace Go.Proofs.YtafglmjadbplcaaGreatDoor
open Eng
set_option maxRecDepth 10000
attribute [local irreducible] FnOk loopW idxF retX arrF

theorem w64 {x : Int} (h1 : -9223372036854775808 ≤ x) (h2 : x ≤ 9223372036854775807) : IntKind.i64.wrap x = x := by
  rw [IntKind.wrap_i64]; omega
abbrev I (n : Int) : SV := .one (.dv (.int .i64 n))
abbrev Bo (b : Bool) : SV := .one (.dv (.bool b))
abbrev Tx (s : ByteArray) : SV := .one (.dv (.str s))
theorem eqI {a b : Int} (h : a = b) : I a = I b := by rw [h]
theorem eqB {a b : Bool} (h : a = b) : Bo a = Bo b := by rw [h]
def encI (n : Int) : List DV := [.int .i64 n]
abbrev Li (xs : List Int) : SV := .one (.dv (.lst 1 (xs.map encI)))
theorem all_take {α : Type} {f : α → Bool} {xs : List α} {k : Nat} {x : α} (h : (xs.take k).all f = true) (hx : xs[k]? = some x) (hf : f x = true) : (xs.take (k + 1)).all f = true := by
  rw [List.take_add_one, hx]; simp [h, hf]
theorem all_not {α : Type} {f : α → Bool} {xs : List α} {k : Nat} {x : α} (hx : xs[k]? = some x) (hf : f x = false) : xs.all f = false := by
  rw [List.all_eq_false]; exact ⟨x, List.mem_of_getElem? hx, by simp [hf]⟩
theorem any_take {α : Type} {f : α → Bool} {xs : List α} {k : Nat} {x : α} (h : (xs.take k).any f = false) (hx : xs[k]? = some x) (hf : f x = false) : (xs.take (k + 1)).any f = false := by
  rw [List.take_add_one, hx]; simp [h, hf]
theorem any_yes {α : Type} {f : α → Bool} {xs : List α} {k : Nat} {x : α} (hx : xs[k]? = some x) (hf : f x = true) : xs.any f = true := by
  rw [List.any_eq_true]; exact ⟨x, List.mem_of_getElem? hx, hf⟩
theorem drop_cons {α : Type} {l : List α} {k : Nat} {x : α} (h : l[k]? = some x) : l.drop k = x :: l.drop (k + 1) := by
  obtain ⟨h1, h2⟩ := List.getElem?_eq_some_iff.1 h
  rw [List.drop_eq_getElem_cons h1, h2]
theorem take_same {α : Type} {xs ys : List α} {k : Nat} {x : α} (h : xs.take k = ys.take k) (hx : xs[k]? = some x) (hy : ys[k]? = some x) : xs.take (k + 1) = ys.take (k + 1) := by
  rw [List.take_add_one, List.take_add_one, hx, hy, h]
theorem ne_at {α : Type} {xs ys : List α} {k : Nat} {x y : α} (hx : xs[k]? = some x) (hy : ys[k]? = some y) (h : x ≠ y) : xs ≠ ys := by
  rintro rfl; rw [hx] at hy; injection hy; contradiction
theorem range_enc {α : Type} {f : Nat → α} {enc : α → List DV} {k : Nat} : ((List.range (k + 1)).map f).map enc = ((List.range k).map f).map enc ++ [enc (f k)] := by
  simp [List.range_succ]
theorem map_of {α : Type} {enc : α → List DV} : ∀ {rs : List (List DV)}, (∀ r ∈ rs, ∃ a, r = enc a) → ∃ xs : List α, rs = xs.map enc
  | [], _ => ⟨[], rfl⟩
  | r :: rs, h => by
    obtain ⟨a, ha⟩ := h r (by simp)
    obtain ⟨xs, hx⟩ := map_of (rs := rs) fun r hr => h r (by simp [hr])
    exact ⟨a :: xs, by rw [ha, hx]; rfl⟩
theorem all2_cons {α β : Type} {R : α → β → Prop} {a : α} {l : List α} {r : List β} (h : All2 R (a :: l) r) : ∃ b r', r = b :: r' ∧ R a b ∧ All2 R l r' := by
  cases r with
  | nil => exact h.elim
  | cons b r => exact ⟨b, r, rfl, h.1, h.2⟩
theorem all2_nil {α β : Type} {R : α → β → Prop} {r : List β} (h : All2 R [] r) : r = [] := by
  cases r with
  | nil => rfl
  | cons b r => exact h.elim
theorem own : ownKnob Tryz.prog.godebug = none := by kernel_rfl
theorem laid : laidOutB Tryz.prog = true := by kernel_rfl
theorem flatI (t : Nat) (xs : List Int) : FlatB (.rows t 1 (xs.map encI)) := by
  intro r hr d hd
  obtain ⟨x, _, rfl⟩ := List.mem_map.1 hr
  simp [encI] at hd; subst hd; trivial

/- numbers -/
theorem tmod_pos {x m : Int} (hm : 0 < m) : (x.tmod m < 0 → x.tmod m + m = x % m) ∧ (0 ≤ x.tmod m → x.tmod m = x % m) ∧ -m < x.tmod m ∧ x.tmod m < m := by
  have h1 := Int.tmod_eq_emod (a := x) (b := m)
  have h2 := Int.emod_nonneg x (b := m) (by omega)
  have h3 := Int.emod_lt_of_pos x hm
  have : (m.natAbs : Int) = m := by omega
  split at h1 <;> omega
end Go.Proofs.YtafglmjadbplcaaGreatDoor

/- Robots and scenes as data, and what the chapters 8 and 9 ask of them, in plain Lean. -/
namespace Go.Proofs.YtafglmjadbplcaaGreatDoor
open Eng
set_option maxRecDepth 10000

structure Vec where
  x : Int
  y : Int
  z : Int
deriving DecidableEq
structure Joint where
  name : ByteArray
  kind : Int
  parent : Int
  off : Vec
  lo : Int
  hi : Int
  weight : Int
  speed : Int
  accel : Int
  torque : Int
structure Mass where
  link : Int
  mass : Int
  point : Vec
structure Shape where
  link : Int
  radius : Int
  points : List Vec
structure Skip where
  a : Int
  b : Int
deriving DecidableEq
structure Robot where
  joints : List Joint
  masses : List Mass
structure Scene where
  robot : Robot
  shapes : List Shape
  skips : List Skip
structure Pair where
  a : Int
  b : Int
deriving DecidableEq
def encV (v : Vec) : List DV := [.int .i64 v.x, .int .i64 v.y, .int .i64 v.z]
def encJ (j : Joint) : List DV := [.str j.name, .int .i64 j.kind, .int .i64 j.parent, .int .i64 j.off.x, .int .i64 j.off.y, .int .i64 j.off.z, .int .i64 j.lo, .int .i64 j.hi, .int .i64 j.weight, .int .i64 j.speed, .int .i64 j.accel, .int .i64 j.torque]
def encM (m : Mass) : List DV := [.int .i64 m.link, .int .i64 m.mass, .int .i64 m.point.x, .int .i64 m.point.y, .int .i64 m.point.z]
def encSh (s : Shape) : List DV := [.int .i64 s.link, .int .i64 s.radius, .lst 3 (s.points.map encV)]
def encSk (s : Skip) : List DV := [.int .i64 s.a, .int .i64 s.b]
def encPa (s : Pair) : List DV := [.int .i64 s.a, .int .i64 s.b]
abbrev dJs (js : List Joint) : DV := .lst 12 (js.map encJ)
abbrev dMs (ms : List Mass) : DV := .lst 5 (ms.map encM)
abbrev dShs (ss : List Shape) : DV := .lst 3 (ss.map encSh)
abbrev dSks (ss : List Skip) : DV := .lst 2 (ss.map encSk)
abbrev Ro (r : Robot) : SV := .agg [.dv (dJs r.joints), .dv (dMs r.masses)]
abbrev Sc (s : Scene) : SV := .agg [.dv (dJs s.robot.joints), .dv (dMs s.robot.masses), .dv (dShs s.shapes), .dv (dSks s.skips)]
abbrev Ve (v : Vec) : SV := .agg [.dv (.int .i64 v.x), .dv (.int .i64 v.y), .dv (.int .i64 v.z)]

abbrev Ma (m : Mass) : SV := .agg [.dv (.int .i64 m.link), .dv (.int .i64 m.mass), .dv (.int .i64 m.point.x), .dv (.int .i64 m.point.y), .dv (.int .i64 m.point.z)]
abbrev Sh (s : Shape) : SV := .agg [.dv (.int .i64 s.link), .dv (.int .i64 s.radius), .dv (.lst 3 (s.points.map encV))]
abbrev dVs (l : List Vec) : DV := .lst 3 (l.map encV)
def small (s : Scene) : Prop := s.robot.joints.length ≤ 4611686018427387904 ∧ s.robot.masses.length ≤ 4611686018427387904 ∧ s.shapes.length ≤ 4611686018427387904 ∧ s.skips.length ≤ 4611686018427387904 ∧ ∀ x ∈ s.shapes, x.points.length ≤ 4611686018427387904

/- names -/
def letterB (c : Int) : Bool := decide (97 ≤ c) && decide (c ≤ 122)
def digitB (c : Int) : Bool := decide (48 ≤ c) && decide (c ≤ 57)
def nameB (i : Nat) (c : Int) : Bool := letterB c || (decide (i ≠ 0) && (digitB c || decide (c = 95)))
def worldT : ByteArray := ⟨#[119, 111, 114, 108, 100]⟩
def nameOk (s : ByteArray) : Bool := decide (1 ≤ s.size) && decide (s.size ≤ 16) && !decide (s = worldT) && (List.range s.size).all fun i => nameB i (byteAt s i)

/- joints -/
def find : List Joint → ByteArray → Nat → Int
  | [], _, _ => -1
  | j :: js, n, k => if j.name = n then k else find js n (k + 1)
def inV (v : Vec) (m : Int) : Bool := (decide (-m ≤ v.x) && decide (v.x ≤ m)) && (decide (-m ≤ v.y) && decide (v.y ≤ m)) && (decide (-m ≤ v.z) && decide (v.z ≤ m))
def reach (k : Int) : Int := if k = 1 ∨ k = 2 ∨ k = 3 then 524288 else if k = 4 ∨ k = 5 ∨ k = 6 then 4194304 else 0
def from1 (x m : Int) : Bool := decide (1 ≤ x) && decide (x ≤ m)
def jointErr (js : List Joint) (i : Nat) (j : Joint) : Int :=
  if nameOk j.name = false ∨ find js j.name 0 ≠ i then 802
  else if j.kind < 0 ∨ 6 < j.kind then 803
  else if j.parent < -1 ∨ (i : Int) ≤ j.parent then 804
  else if inV j.off 4194304 = false then 805
  else if j.hi < j.lo ∨ j.lo < - reach j.kind ∨ reach j.kind < j.hi then 806
  else if (from1 j.weight 1024 && from1 j.speed 1048576 && from1 j.accel 1048576 && from1 j.torque 1099511627776) = false then 807
  else 0
def jointsErr (js : List Joint) : Nat → List Joint → Int
  | _, [] => 0
  | i, j :: rest => if jointErr js i j = 0 then jointsErr js (i + 1) rest else jointErr js i j
def massOk (n : Nat) (m : Mass) : Bool := decide (0 ≤ m.link) && decide (m.link < n) && from1 m.mass 65536 && inV m.point 4194304
def checkRobot (r : Robot) : Int :=
  if r.joints.length = 0 ∨ 10 < r.joints.length then 801
  else if jointsErr r.joints 0 r.joints ≠ 0 then jointsErr r.joints 0 r.joints
  else if 32 < r.masses.length ∨ r.masses.all (massOk r.joints.length) = false then 808
  else 0
def linkOk (n : Nat) (k : Int) : Bool := decide (-1 ≤ k) && decide (k < n)
def shapeErr (n : Nat) (s : Shape) : Int :=
  if linkOk n s.link = false ∨ s.radius < 1 ∨ 1048576 < s.radius ∨ s.points.length < 1 ∨ 8 < s.points.length then 902
  else if s.points.all (inV · 4194304) = false then 805
  else 0
def shapesErr (n : Nat) : List Shape → Int
  | [] => 0
  | s :: rest => if shapeErr n s = 0 then shapesErr n rest else shapeErr n s
def skipOk (n : Nat) (k : Skip) : Bool := linkOk n k.a && linkOk n k.b
def checkScene (s : Scene) : Int :=
  if checkRobot s.robot ≠ 0 then checkRobot s.robot
  else if 24 < s.shapes.length then 901
  else if shapesErr s.robot.joints.length s.shapes ≠ 0 then shapesErr s.robot.joints.length s.shapes
  else if 64 < s.skips.length then 903
  else if (s.skips.all fun k => linkOk s.robot.joints.length k.a && linkOk s.robot.joints.length k.b) = false then 903
  else 0
end Go.Proofs.YtafglmjadbplcaaGreatDoor

/- Bytes and runes of texts. -/
namespace Go.Proofs.YtafglmjadbplcaaGreatDoor
open Eng
set_option maxRecDepth 10000
attribute [local irreducible] FnOk loopW idxF retX arrF

abbrev Ru (c : Int) : SV := .one (.dv (.int .i32 c))
abbrev By (c : Int) : SV := .one (.dv (.int .u8 c))
theorem byteAt_get {s : ByteArray} {i : Nat} (h : i < s.size) : byteAt s i = ((s[i]'h).toNat : Int) := by
  unfold byteAt; rw [getElem?_pos s i h]; rfl
theorem byteAt_bd (s : ByteArray) (i : Nat) : 0 ≤ byteAt s i ∧ byteAt s i < 256 := by
  unfold byteAt
  have := (s[i]?.getD 0).toNat_lt
  omega
end Go.Proofs.YtafglmjadbplcaaGreatDoor

/- Statements as data. -/
namespace Go.Proofs.YtafglmjadbplcaaGreatDoor
open Eng

structure Stmt where
  line : Int
  word : ByteArray
  args : List ByteArray
deriving DecidableEq
def encA (s : ByteArray) : List DV := [.str s]
def encSt (s : Stmt) : List DV := [.int .i64 s.line, .str s.word, .lst 1 (s.args.map encA)]
abbrev dSts (l : List Stmt) : DV := .lst 3 (l.map encSt)
def wJoint : ByteArray := ⟨#[106, 111, 105, 110, 116]⟩
def wLimit : ByteArray := ⟨#[108, 105, 109, 105, 116]⟩
def wMass : ByteArray := ⟨#[109, 97, 115, 115]⟩
def wShape : ByteArray := ⟨#[115, 104, 97, 112, 101]⟩
def wSkip : ByteArray := ⟨#[115, 107, 105, 112]⟩
/-- statements in lines of their own -/
def numb : Nat → List (ByteArray × List ByteArray) → List Stmt
  | _, [] => []
  | n, p :: l => ⟨(n : Int) + 1, p.1, p.2⟩ :: numb (n + 1) l
theorem numb_app : ∀ (n : Nat) (a b : List (ByteArray × List ByteArray)), numb n (a ++ b) = numb n a ++ numb (n + a.length) b
  | n, [], b => rfl
  | n, p :: a, b => by
    rw [List.cons_append, numb, numb, numb_app (n + 1) a b, List.length_cons, show n + 1 + a.length = n + (a.length + 1) by omega]; rfl
theorem numb_len : ∀ (n : Nat) (a : List (ByteArray × List ByteArray)), (numb n a).length = a.length
  | _, [] => rfl
  | n, p :: a => by rw [numb, List.length_cons, numb_len, List.length_cons]
theorem numb_snoc (B : List (ByteArray × List ByteArray)) (w : ByteArray) (xs : List ByteArray) : (numb 0 (B ++ [(w, xs)])).map encSt = (numb 0 B).map encSt ++ [[.int .i64 ((B.length : Int) + 1), .str w, .lst 1 (xs.map encA)]] := by
  rw [numb_app, List.map_append, Nat.zero_add]; rfl
end Go.Proofs.YtafglmjadbplcaaGreatDoor

/- law7: the table of words, Arguments. -/
namespace Go.Proofs.YtafglmjadbplcaaGreatDoor
open Eng
set_option maxRecDepth 10000
attribute [local irreducible] FnOk loopW idxF retX arrF findF

structure Counts where
  least : Int
  most : Int
  step : Int
def encC (c : Counts) : List DV := [.int .i64 c.least, .int .i64 c.most, .int .i64 c.step]
abbrev Cn (c : Counts) : SV := .agg [.dv (.int .i64 c.least), .dv (.int .i64 c.most), .dv (.int .i64 c.step)]
def entC (s : ByteArray) (c : Counts) : Ent := ((false, [.str s]), (true, encC c))
def tabE : List Ent := [entC wJoint ⟨9, 9, 1⟩, entC wLimit ⟨4, 4, 1⟩, entC wMass ⟨5, 5, 1⟩, entC wShape ⟨5, 26, 3⟩, entC wSkip ⟨2, 2, 1⟩]
def countsOf (w : ByteArray) : Option Counts := if w = wJoint then some ⟨9, 9, 1⟩ else if w = wLimit then some ⟨4, 4, 1⟩ else if w = wMass then some ⟨5, 5, 1⟩ else if w = wShape then some ⟨5, 26, 3⟩ else if w = wSkip then some ⟨2, 2, 1⟩ else none
theorem mapT : Tryz.prog.underlying Y.map_string_syntax_counts = some (.map Y.string Y.syntax_counts) ∧ Tryz.prog.underlying Y.string = some .string := ⟨by kernel_rfl, by kernel_rfl⟩
theorem zC : zAgg Tryz.prog Y.syntax_counts = true := by kernel_rfl
theorem keysT : keysD .string tabE := ⟨trivial, trivial, trivial, trivial, trivial, trivial⟩
theorem syntax_table : FnOk Tryz.prog F.syntax_table [] [] 0 (.one (.row 0)) [(0, .mp tabE)] 1 := by
  refine fnOk tab mix G.syntax_table rfl rfl (by kernel_rfl) rfl rfl ?_
  (conv => whnf)
  refine ⟨Y.string, Y.syntax_counts, .string, ⟨mapT.1, mapT.2, trivial, trivial⟩, ?_⟩
  (conv => whnf)
  refine find_is (r := none) rfl ?_
  (conv => whnf)
  refine ⟨Y.string, Y.syntax_counts, .string, ⟨mapT.1, mapT.2, trivial, ⟨trivial, trivial⟩⟩, ?_⟩
  (conv => whnf)
  refine find_is (r := none) (by kernel_rfl) ?_
  (conv => whnf)
  refine ⟨Y.string, Y.syntax_counts, .string, ⟨mapT.1, mapT.2, trivial, ⟨trivial, trivial, trivial⟩⟩, ?_⟩
  (conv => whnf)
  refine find_is (r := none) (by kernel_rfl) ?_
  (conv => whnf)
  refine ⟨Y.string, Y.syntax_counts, .string, ⟨mapT.1, mapT.2, trivial, ⟨trivial, trivial, trivial, trivial⟩⟩, ?_⟩
  (conv => whnf)
  refine find_is (r := none) (by kernel_rfl) ?_
  (conv => whnf)
  refine ⟨Y.string, Y.syntax_counts, .string, ⟨mapT.1, mapT.2, trivial, ⟨trivial, trivial, trivial, trivial, trivial⟩⟩, ?_⟩
  (conv => whnf)
  refine find_is (r := none) (by kernel_rfl) ?_
  (conv => whnf)
  refine ret0 ?_
  exact ⟨[(0, 0)], ⟨rfl, trivial⟩, ⟨rfl, trivial⟩⟩
def posOf (w : ByteArray) : Nat := if w = wJoint then 0 else if w = wLimit then 1 else if w = wMass then 2 else if w = wShape then 3 else 4
theorem find_tab (w : ByteArray) : findD (.str w) tabE = (countsOf w).map fun c => (posOf w, (true, encC c)) := by
  unfold tabE countsOf posOf entC
  simp only [findD, keyEq]
  by_cases h1 : w = wJoint
  · simp [h1]
  by_cases h2 : w = wLimit
  · simp [h1, h2]; subst h2; simp_all
  by_cases h3 : w = wMass
  · simp [h1, h2, h3]; subst h3; simp_all
  by_cases h4 : w = wShape
  · simp [h1, h2, h3, h4]; subst h4; simp_all
  by_cases h5 : w = wSkip
  · simp [h1, h2, h3, h4, h5]; subst h5; simp_all
  simp [h1, h2, h3, h4, h5]
def allowB (c : Counts) (n : Int) : Bool := decide (c.least ≤ n) && decide (n ≤ c.most) && decide ((n - c.least) % c.step = 0)
theorem syntax_allow (c : Counts) (n : Int) (hc : 0 ≤ c.least ∧ c.most ≤ 100 ∧ 0 < c.step) : FnOk Tryz.prog F.syntax_counts_allow [Cn c, I n] [] 0 (Bo (allowB c n)) [] 0 := by
  refine fnOk tab mix G.syntax_counts_allow rfl rfl (by kernel_rfl) rfl rfl ?_
  (conv => whnf)
  refine ask_m (fun h => ?_) (fun h => ?_)
  · have h1 := of_decide_eq_true h
    (conv => whnf)
    refine ask_m (fun h => ?_) (fun h => ?_)
    · have h2 := of_decide_eq_true h
      have hw : IntKind.i64.wrap (n - c.least) = n - c.least := by rw [w64] <;> omega
      (conv => whnf)
      rw [hw]
      have hm : (n - c.least).tmod c.step = (n - c.least) % c.step := Int.tmod_eq_emod_of_nonneg (by omega)
      refine ⟨(by omega : c.step ≠ 0), ?_⟩
      (conv => whnf)
      rw [hm]
      (conv => whnf)
      refine ret0 ?_
      exact ret_b (by simp [allowB, h1, h2]; rfl) rfl
    · have h2 := of_decide_eq_false h
      (conv => whnf)
      refine ret0 ?_
      exact ret_b (by simp [allowB, h2]) rfl
  · have h1 := of_decide_eq_false h
    (conv => whnf)
    refine ret0 ?_
    exact ret_b (by simp [allowB, h1]) rfl
theorem counts_good {w : ByteArray} {c : Counts} (h : countsOf w = some c) : 0 ≤ c.least ∧ c.most ≤ 100 ∧ 0 < c.step := by
  unfold countsOf at h
  repeat' split at h
  all_goals first | (injection h with h; subst h; decide) | cases h
def argsB (w : ByteArray) (n : Int) : Bool := match countsOf w with
  | some c => allowB c n
  | none => false
theorem syntax_Arguments (w : ByteArray) (n : Int) : FnOk Tryz.prog F.syntax_Arguments [Tx w, I n] [] 0 (Bo (argsB w n)) [] 0 := by
  refine fnOk tab mix G.syntax_Arguments rfl rfl (by kernel_rfl) rfl rfl ?_
  (conv => whnf)
  refine call_i (syntax_table) ?_
  (conv => whnf)
  refine ⟨Y.string, Y.syntax_counts, .string, ⟨mapT.1, mapT.2, trivial, keysT⟩, ?_⟩
  (conv => whnf)
  refine ⟨zC, ?_⟩
  (conv => whnf)
  cases hc : countsOf w with
  | none =>
    refine find_is (r := none) (by rw [find_tab, hc]; rfl) ?_
    (conv => whnf)
    refine ret0 ?_
    exact ret_b (by rw [argsB, hc]) rfl
  | some c =>
    refine find_is (r := some (posOf w, (true, encC c))) (by rw [find_tab, hc]; rfl) ?_
    (conv => whnf)
    refine call_i (syntax_allow c n (counts_good hc)) ?_
    (conv => whnf)
    (conv => whnf)
    refine ret0 ?_
    exact ret_b (by rw [argsB, hc]) rfl
theorem ref_Arguments (w : ByteArray) (n : Int) : FnOk Tryz.prog F.ref6_Arguments [Tx w, I n] [] 0 (Bo (argsB w n)) [] 0 := by
  refine fnOk tab mix G.ref6_Arguments rfl rfl (by kernel_rfl) rfl rfl ?_
  (conv => whnf)
  have e1 : ∀ x, countsOf w = some x → argsB w n = allowB x n := fun x h => by rw [argsB, h]
  refine ask_m (fun h => ?_) (fun h => ?_)
  · have h : w = wJoint := of_decide_eq_true h
    (conv => whnf)
    refine ret0 ?_
    exact ret_b (by rw [e1 ⟨9, 9, 1⟩ (by rw [countsOf, if_pos h]), Bool.eq_iff_iff]; simp [allowB]; omega) rfl
  have n1 : ¬ w = wJoint := of_decide_eq_false h
  (conv => whnf)
  refine ask_m (fun h => ?_) (fun h => ?_)
  · have h : w = wLimit := of_decide_eq_true h
    (conv => whnf)
    refine ret0 ?_
    exact ret_b (by rw [e1 ⟨4, 4, 1⟩ (by rw [countsOf, if_neg n1, if_pos h]), Bool.eq_iff_iff]; simp [allowB]; omega) rfl
  have n2 : ¬ w = wLimit := of_decide_eq_false h
  (conv => whnf)
  refine ask_m (fun h => ?_) (fun h => ?_)
  · have h : w = wMass := of_decide_eq_true h
    (conv => whnf)
    refine ret0 ?_
    exact ret_b (by rw [e1 ⟨5, 5, 1⟩ (by rw [countsOf, if_neg n1, if_neg n2, if_pos h]), Bool.eq_iff_iff]; simp [allowB]; omega) rfl
  have n3 : ¬ w = wMass := of_decide_eq_false h
  (conv => whnf)
  refine ask_m (fun h => ?_) (fun h => ?_)
  · have h : w = wShape := of_decide_eq_true h
    have e := e1 ⟨5, 26, 3⟩ (by rw [countsOf, if_neg n1, if_neg n2, if_neg n3, if_pos h])
    rw [e]
    (conv => whnf)
    refine ask_m (fun h => ?_) (fun h => ?_)
    · have h1 := of_decide_eq_true h
      (conv => whnf)
      refine ask_m (fun h => ?_) (fun h => ?_)
      · have h2 := of_decide_eq_true h
        have hw : IntKind.i64.wrap (n - 2) = n - 2 := by rw [w64] <;> omega
        have hm : (n - 2).tmod 3 = (n - 2) % 3 := Int.tmod_eq_emod_of_nonneg (by omega)
        (conv => whnf)
        rw [hw]
        refine ⟨(by omega : (3 : Int) ≠ 0), ?_⟩
        (conv => whnf)
        rw [hm]
        (conv => whnf)
        refine ret0 ?_
        exact ret_b (by rw [Bool.eq_iff_iff]; simp [allowB, h1, h2]; omega) rfl
      · have h2 := of_decide_eq_false h
        (conv => whnf)
        refine ret0 ?_
        exact ret_b (by simp [allowB, h2]) rfl
    · have h1 := of_decide_eq_false h
      (conv => whnf)
      refine ret0 ?_
      exact ret_b (by simp [allowB]; intro h; exact absurd h h1) rfl
  have n4 : ¬ w = wShape := of_decide_eq_false h
  (conv => whnf)
  refine ask_m (fun h => ?_) (fun h => ?_)
  · have h : w = wSkip := of_decide_eq_true h
    (conv => whnf)
    refine ret0 ?_
    exact ret_b (by rw [e1 ⟨2, 2, 1⟩ (by rw [countsOf, if_neg n1, if_neg n2, if_neg n3, if_neg n4, if_pos h]), Bool.eq_iff_iff]; simp [allowB]; omega) rfl
  have n5 : ¬ w = wSkip := of_decide_eq_false h
  (conv => whnf)
  refine ret0 ?_
  exact ret_b (by rw [argsB, countsOf, if_neg n1, if_neg n2, if_neg n3, if_neg n4, if_neg n5]) rfl
end Go.Proofs.YtafglmjadbplcaaGreatDoor

/- Words of a description: the automaton, and token.Split. -/
namespace Go.Proofs.YtafglmjadbplcaaGreatDoor
open Eng
set_option maxRecDepth 10000
attribute [local irreducible] FnOk loopW idxF retX arrF

structure Word where
  text : ByteArray
  line : Int
  col : Int
def encW (w : Word) : List DV := [.str w.text, .int .i64 w.line, .int .i64 w.col]
abbrev dWs (l : List Word) : DV := .lst 3 (l.map encW)
abbrev bWs (l : List Word) : Box := .rows Y.Word 3 (l.map encW)
def wordB (c : Int) : Bool := decide (33 ≤ c) && decide (c ≤ 126) && !decide (c = 35)
structure SS where
  line : Int
  bgn : Int
  com : Bool
  ws : Int
  words : List Word
  bad : Bool
/-- the words, a word that is being read ended at i -/
def fin (s : ByteArray) (st : SS) (i : Nat) : List Word := if 0 ≤ st.ws then st.words ++ [⟨s.extract st.ws.toNat i, st.line, st.ws - st.bgn + 1⟩] else st.words
def stepS (s : ByteArray) (st : SS) (i : Nat) : SS :=
  if st.bad then st
  else if byteAt s i = 10 then ⟨st.line + 1, i + 1, false, -1, fin s st i, false⟩
  else if st.com then st
  else if byteAt s i = 32 ∨ byteAt s i = 9 then ⟨st.line, st.bgn, false, -1, fin s st i, false⟩
  else if byteAt s i = 35 then ⟨st.line, st.bgn, true, -1, fin s st i, false⟩
  else if wordB (byteAt s i) = false then ⟨st.line, st.bgn, false, st.ws, st.words, true⟩
  else if st.ws < 0 then ⟨st.line, st.bgn, false, i, st.words, false⟩
  else st
def autoAt (s : ByteArray) (k : Nat) : SS := (List.range k).foldl (stepS s) ⟨1, 0, false, -1, [], false⟩
theorem auto_succ (s : ByteArray) (k : Nat) : autoAt s (k + 1) = stepS s (autoAt s k) k := by
  unfold autoAt; rw [List.range_succ, List.foldl_append]; rfl
theorem auto_bad {s : ByteArray} {k : Nat} (h : (autoAt s k).bad = true) : ∀ d, autoAt s (k + d) = autoAt s k
  | 0 => rfl
  | d + 1 => by rw [← Nat.add_assoc, auto_succ, auto_bad h d, stepS, if_pos h]
structure Inv (st : SS) (k : Nat) : Prop where
  line1 : 1 ≤ st.line
  line2 : st.line ≤ k + 1
  bgn0 : 0 ≤ st.bgn
  bgn1 : st.bgn ≤ k
  ws0 : -1 ≤ st.ws
  ws1 : st.ws < k
  wsb : 0 ≤ st.ws → st.bgn ≤ st.ws
  len : st.words.length ≤ k
  com : st.com = true → st.ws = -1
theorem fin_len (s : ByteArray) (st : SS) (i : Nat) : (fin s st i).length ≤ st.words.length + 1 := by
  unfold fin; split <;> simp
theorem auto_inv (s : ByteArray) (k : Nat) : Inv (autoAt s k) k := by
  induction k with
  | zero => show Inv ⟨1, 0, false, -1, [], false⟩ 0; exact ⟨by decide, by decide, by decide, by decide, by decide, by decide, by decide, by decide, by decide⟩
  | succ k ih =>
    rw [auto_succ]
    have hf := fin_len s (autoAt s k) k
    obtain ⟨h1, h2, h3, h4, h5, h6, h7, h8, h9⟩ := ih
    generalize autoAt s k = st at *
    unfold stepS
    repeat' split
    all_goals first
      | exact ⟨by omega, by omega, by omega, by omega, by omega, by omega, by omega, by omega, h9⟩
      | exact ⟨by simp only; omega, by simp only; omega, by simp only; omega, by simp only; omega, by simp only; omega, by simp only; omega, by simp only; omega, by simp only; omega, by simp⟩
/-- what Split answers: the words, the error and its line -/
def splitOf (s : ByteArray) : List Word × Int × Int :=
  if 16384 < s.size then ([], 601, 0)
  else if (autoAt s s.size).bad then ([], 601, (autoAt s s.size).line)
  else (fin s (autoAt s s.size) s.size, 0, 0)
theorem wordB_low {c : Int} (h : wordB c = true) : c < 128 := by
  simp [wordB] at h; omega
abbrev vI (n : Int) : Box := .vars Y.int [.dv (.int .i64 n)]
theorem dec_low {s : ByteArray} {i : Nat} (h : i < s.size) (hl : byteAt s i < 128) : Utf8.decode s i = ((byteAt s i).toNat, 1) := by
  have hb := byteAt_get h
  rw [decode_ascii s i h (by omega), hb]; rfl
theorem dec_high {s : ByteArray} {i : Nat} (h : i < s.size) (hl : 128 ≤ byteAt s i) : 128 ≤ (Utf8.decode s i).1 ∧ 1 ≤ (Utf8.decode s i).2 := by
  have hb := byteAt_get h
  exact decode_high s i h (by omega)
theorem get_byte {s : ByteArray} {i : Nat} (h : i < s.size) : ((s.get! i).toNat : Int) = byteAt s i := by
  have := get_at s i h
  rw [Nat.add_zero] at this
  rw [byteAt_get h, this]
/-- the bytes of a sign of several bytes are high -/
theorem dec_bytes {s : ByteArray} {i d : Nat} (h : i < s.size) (hd : d < (Utf8.decode s i).2) : i + d < s.size ∧ (1 ≤ d → 128 ≤ byteAt s (i + d)) := by
  have key : ∀ k, (decide (i + k < s.size) && (s.get! (i + k)).toNat / 64 == 2) = true → i + k < s.size ∧ (1 ≤ k → 128 ≤ byteAt s (i + k)) := fun k hk => by
    rw [Bool.and_eq_true] at hk
    have h1 : i + k < s.size := of_decide_eq_true hk.1
    have h2 : (s.get! (i + k)).toNat / 64 = 2 := by simpa using hk.2
    exact ⟨h1, fun _ => by rw [← get_byte h1]; omega⟩
  have k0 : i + 0 < s.size ∧ (1 ≤ 0 → 128 ≤ byteAt s (i + 0)) := ⟨h, fun h => by omega⟩
  simp only [Utf8.decode] at hd
  split at hd
  · simp only at hd; obtain rfl : d = 0 := by omega
    exact k0
  split at hd
  · rename_i hc
    rw [Bool.and_eq_true] at hc
    have hd : d < 2 := by split at hd <;> simp only at hd <;> omega
    rcases (show d = 0 ∨ d = 1 by omega) with rfl | rfl
    · exact k0
    · exact key 1 hc.2
  split at hd
  · rename_i hc
    rw [Bool.and_eq_true, Bool.and_eq_true] at hc
    have hd : d < 3 := by split at hd <;> simp only at hd <;> omega
    rcases (show d = 0 ∨ d = 1 ∨ d = 2 by omega) with rfl | rfl | rfl
    · exact k0
    · exact key 1 hc.1.2
    · exact key 2 hc.2
  split at hd
  · rename_i hc
    rw [Bool.and_eq_true, Bool.and_eq_true, Bool.and_eq_true] at hc
    have hd : d < 4 := by split at hd <;> simp only at hd <;> omega
    rcases (show d = 0 ∨ d = 1 ∨ d = 2 ∨ d = 3 by omega) with rfl | rfl | rfl | rfl
    · exact k0
    · exact key 1 hc.1.1.2
    · exact key 2 hc.1.2
    · exact key 3 hc.2
  · simp only at hd; obtain rfl : d = 0 := by omega
    exact k0
/-- a sign in a comment that ends no line changes nothing -/
theorem auto_skip {s : ByteArray} {k : Nat} (hk : k < s.size) (hb : (autoAt s k).bad = false) (hc : (autoAt s k).com = true) (h10 : byteAt s k ≠ 10) : ∀ d, d ≤ (Utf8.decode s k).2 → 1 ≤ (Utf8.decode s k).2 → autoAt s (k + d) = autoAt s k
  | 0, _, _ => rfl
  | d + 1, hd, h1 => by
    have ih := auto_skip hk hb hc h10 d (by omega) h1
    have hne : byteAt s (k + d) ≠ 10 := by
      rcases Nat.eq_zero_or_pos d with rfl | hp
      · exact h10
      · have := (dec_bytes hk (d := d) (by omega)).2 hp
        omega
    rw [← Nat.add_assoc, auto_succ, ih, stepS, if_neg (by rw [hb]; simp), if_neg hne, if_pos hc]
theorem dec_end {s : ByteArray} {k : Nat} (hk : k < s.size) (h1 : 1 ≤ (Utf8.decode s k).2) : k + (Utf8.decode s k).2 ≤ s.size := by
  have := (dec_bytes hk (d := (Utf8.decode s k).2 - 1) (by omega)).1
  omega
end Go.Proofs.YtafglmjadbplcaaGreatDoor

/- token.Split. -/
namespace Go.Proofs.YtafglmjadbplcaaGreatDoor
open Eng
set_option maxRecDepth 10000
attribute [local irreducible] FnOk loopW idxF retX arrF

abbrev vE (e l : Int) : Box := .vars Y.SourceError [.dv (.int .i64 e), .dv (.int .i64 l)]
abbrev SpR (r : List Word × Int × Int) : SV := .tup [(false, [.dv (dWs r.1)]), (true, [.dv (.int .i64 r.2.1), .dv (.int .i64 r.2.2)])]
end Go.Proofs.YtafglmjadbplcaaGreatDoor

/- law7: statements, syntax.group. -/
namespace Go.Proofs.YtafglmjadbplcaaGreatDoor
open Eng
set_option maxRecDepth 10000
attribute [local irreducible] FnOk loopW idxF retX arrF findF

/-- one more word -/
def gstep (acc : List Stmt × Option Stmt) (w : Word) : List Stmt × Option Stmt := match acc.2 with
  | none => (acc.1, some ⟨w.line, w.text, []⟩)
  | some s => if s.line = w.line then (acc.1, some ⟨s.line, s.word, s.args ++ [w.text]⟩) else (acc.1 ++ [s], some ⟨w.line, w.text, []⟩)
def gAll (ws : List Word) : List Stmt × Option Stmt := ws.foldl gstep ([], none)
def groupOf (ws : List Word) : List Stmt := (gAll ws).1 ++ (gAll ws).2.toList
/-- the row of statements and the row of the last one's arguments -/
def gBoxes (rs : List Stmt) : Option Stmt → List (Nat × Box)
  | none => [(0, .rows Y.Statement 3 (rs.map encSt))]
  | some ⟨ln, wd, []⟩ => [(0, .rows Y.Statement 3 (rs.map encSt ++ [[.int .i64 ln, .str wd, .nul 1]]))]
  | some ⟨ln, wd, a :: r⟩ => [(0, .orow Y.Statement 3 (rs.map encSt) [.dv (.int .i64 ln), .dv (.str wd), .row 1]), (1, .rows Y.string 1 ((a :: r).map encA))]
theorem gAll_len (ws : List Word) : ∀ (acc : List Stmt × Option Stmt) (n : Nat), acc.1.length ≤ n ∧ (∀ s, acc.2 = some s → s.args.length ≤ n) → (ws.foldl gstep acc).1.length ≤ n + ws.length ∧ ∀ s, (ws.foldl gstep acc).2 = some s → s.args.length ≤ n + ws.length := by
  induction ws with
  | nil => intro acc n h; exact h
  | cons w ws ih =>
    intro acc n h
    have := ih (gstep acc w) (n + 1) (by
      obtain ⟨rs, o⟩ := acc
      obtain ⟨h1, h2⟩ := h
      cases o with
      | none =>
        refine ⟨by simp only [gstep]; simp only at h1; omega, fun s hs => ?_⟩
        simp only [gstep, Option.some.injEq] at hs
        subst hs; simp
      | some s0 =>
        have h3 := h2 s0 rfl
        simp only [gstep]
        split
        · refine ⟨by simp only at h1 ⊢; omega, fun s hs => ?_⟩
          simp only [Option.some.injEq] at hs
          subst hs; simp; omega
        · refine ⟨by simp at h1 ⊢; omega, fun s hs => ?_⟩
          simp only [Option.some.injEq] at hs
          subst hs; simp)
    rw [List.foldl_cons, List.length_cons]
    rw [show n + (ws.length + 1) = n + 1 + ws.length by omega]
    exact this
theorem eqD3 {a b : List (List DV)} (h : a = b) : SV.one (.dv (.lst 3 a)) = SV.one (.dv (.lst 3 b)) := by rw [h]
end Go.Proofs.YtafglmjadbplcaaGreatDoor

/- law7: check, Parse. -/
namespace Go.Proofs.YtafglmjadbplcaaGreatDoor
open Eng
set_option maxRecDepth 10000
attribute [local irreducible] FnOk loopW idxF retX arrF findF

abbrev St (s : Stmt) : SV := .agg [.dv (.int .i64 s.line), .dv (.str s.word), .dv (.lst 1 (s.args.map encA))]
def checkOf (i : Nat) (s : Stmt) : Int := if 256 ≤ i then 703 else match countsOf s.word with
  | none => 701
  | some c => if allowB c s.args.length then 0 else 702
def firstErr : Nat → List Stmt → Option (Int × Int)
  | _, [] => none
  | i, s :: l => if checkOf i s = 0 then firstErr (i + 1) l else some (checkOf i s, s.line)
def parseOf (src : ByteArray) : List Stmt × Int × Int :=
  if (splitOf src).2.1 ≠ 0 then ([], (splitOf src).2) else match firstErr 0 (groupOf (splitOf src).1) with
    | some e => ([], e)
    | none => (groupOf (splitOf src).1, 0, 0)
abbrev PaR (r : List Stmt × Int × Int) : SV := .tup [(false, [.dv (dSts r.1)]), (true, [.dv (.int .i64 r.2.1), .dv (.int .i64 r.2.2)])]
theorem firstErr_at {k : Nat} {l : List Stmt} {s : Stmt} (h : l[k]? = some s) : firstErr k (l.drop k) = if checkOf k s = 0 then firstErr (k + 1) (l.drop (k + 1)) else some (checkOf k s, s.line) := by
  rw [drop_cons h, firstErr]
theorem split_len (s : ByteArray) : (splitOf s).1.length ≤ 16385 := by
  unfold splitOf
  repeat' split
  · simp
  · simp
  · have := fin_len s (autoAt s s.size) s.size
    have := (auto_inv s s.size).len
    simp only; omega
theorem group_len (ws : List Word) : (groupOf ws).length ≤ ws.length + 1 := by
  have := gAll_len ws ([], none) 0 ⟨Nat.zero_le _, fun s h => by cases h⟩
  rw [← gAll] at this
  have h2 : (gAll ws).2.toList.length ≤ 1 := by cases (gAll ws).2 <;> simp
  rw [groupOf, List.length_append]; omega
end Go.Proofs.YtafglmjadbplcaaGreatDoor

/- ref.Split; words alike. -/
namespace Go.Proofs.YtafglmjadbplcaaGreatDoor
open Eng
set_option maxRecDepth 10000
attribute [local irreducible] FnOk loopW idxF retX arrF

deriving instance DecidableEq for Word
def permB (c : Int) : Bool := decide (c = 32) || decide (c = 9) || decide (c = 10) || (decide (33 ≤ c) && decide (c ≤ 126))
theorem ref_permitted (c : Int) : FnOk Tryz.prog F.ref6_permitted [By c] [] 0 (Bo (permB c)) [] 0 := by
  refine fnOk tab mix G.ref6_permitted rfl rfl (by kernel_rfl) rfl rfl ?_
  repeat' ((conv => whnf); first | refine ask_m (fun h => ?_) (fun h => ?_) | refine ret0 ?_)
  all_goals exact ret_b (by first | (simp_all [permB]; done) | (simp_all [permB]; omega)) rfl
theorem ref_inWord (c : Int) : FnOk Tryz.prog F.ref6_inWord [By c] [] 0 (Bo (wordB c)) [] 0 := by
  refine fnOk tab mix G.ref6_inWord rfl rfl (by kernel_rfl) rfl rfl ?_
  repeat' ((conv => whnf); first | refine ask_m (fun h => ?_) (fun h => ?_) | refine ret0 ?_)
  all_goals exact ret_b (by by_cases h35 : c = 35 <;> first | (simp_all [wordB]; done) | (simp_all [wordB]; omega)) rfl
theorem ref_Split (s : ByteArray) : FnOk Tryz.prog F.ref6_Split [Tx s] [] 0 (SpR (splitOf s)) [] 0 := by
  refine fnOk tab mix G.ref6_Split rfl rfl (by kernel_rfl) rfl rfl ?_
  (conv => whnf)
  refine ask_m (fun h => ?_) (fun h => ?_)
  · have h : 16384 < s.size := by simp at h; omega
    have e : splitOf s = ([], 601, 0) := by rw [splitOf, if_pos h]
    rw [e]
    (conv => whnf)
    refine retO [.own 2 Y.Word 3, .frz 1] ?_
    (conv => whnf)
    exact ⟨[], ⟨rfl, trivial⟩, trivial⟩
  have hs : ¬ 16384 < s.size := by simp at h; omega
  have hsp : splitOf s = if (autoAt s s.size).bad then ([], 601, (autoAt s s.size).line) else (fin s (autoAt s s.size) s.size, 0, 0) := by rw [splitOf, if_neg hs]
  (conv => whnf)
  refine loop_intro (fun p : Nat × SS => ⟨[(0, Tx s), (3, .one (.vptr 0 0)), (4, .one (.row 1)), (5, I p.2.line), (6, I p.2.bgn), (7, Bo p.2.com), (8, I p.1)], [(0, vE 0 0), (1, bWs (fin s p.2 p.1))], 2⟩)
    (fun p => p.1 ≤ s.size ∧ autoAt s p.1 = p.2 ∧ p.2.bad = false ∧ (0 ≤ p.2.ws → p.1 = s.size ∨ wordB (byteAt s p.1) = false)) (fun p => s.size - p.1) [.own 4 Y.Word 3] (0, ⟨1, 0, false, -1, [], false⟩) [] ⟨Nat.zero_le _, rfl, rfl, fun h => absurd h (by decide)⟩ ⟨⟨rfl, rfl, rfl, rfl, rfl, rfl, rfl, trivial⟩, ⟨rfl, rfl, trivial⟩⟩ ?_
  rintro ⟨k, st⟩ ⟨hk, hst, hbad, hwk⟩
  simp only at hk hst hbad hwk
  have hi := auto_inv s k
  rw [hst] at hi
  (conv => whnf)
  refine ask_m (fun h => ?_) (fun h => ?_)
  · have hlt : k < s.size := by simp at h; omega
    have hstep := auto_succ s k
    rw [hst, stepS, if_neg (by rw [hbad]; simp)] at hstep
    have hkk : IntKind.i64.wrap ((k : Int) + 1) = ((k + 1 : Nat) : Int) := by rw [w64] <;> omega
    have hll : IntKind.i64.wrap (st.line + 1) = st.line + 1 := by rw [w64] <;> (have := hi.line1; have := hi.line2; omega)
    have hfl := fin_len s st k
    have hle := hi.len
    (conv => whnf)
    refine ⟨⟨by omega, by omega⟩, ?_⟩
    (conv => whnf)
    rw [Int.toNat_natCast]
    generalize hc : byteAt s k = c at *
    have hnf : ∀ (st' : SS) (j : Nat), st'.ws = -1 → fin s st' j = st'.words := fun st' j h => by rw [fin, if_neg (by rw [h]; decide)]
    refine ask_m (fun h10 => ?_) (fun h10 => ?_)
    · have h10 : c = 10 := by simpa using h10
      rw [if_pos h10] at hstep
      (conv => whnf)
      rw [hll, hkk]
      refine ⟨(k + 1, ⟨st.line + 1, k + 1, false, -1, fin s st k, false⟩), [], ⟨hlt, hstep, rfl, fun h => absurd (show (0 : Int) ≤ -1 from h) (by decide)⟩, by simp only; omega, ⟨⟨rfl, rfl, rfl, rfl, rfl, rfl, rfl, trivial⟩, ⟨rfl, ?_, trivial⟩⟩⟩
      exact (congrArg bWs (hnf ⟨st.line + 1, k + 1, false, -1, fin s st k, false⟩ (k + 1) rfl)).symm
    have h10 : ¬ c = 10 := by simpa using h10
    rw [if_neg h10] at hstep
    (conv => whnf)
    refine ask_m (fun hcm => ?_) (fun hcm => ?_)
    · have hcm : st.com = true := hcm
      rw [if_pos hcm] at hstep
      have hw := hi.com hcm
      (conv => whnf)
      rw [hkk]
      refine ⟨(k + 1, st), [], ⟨hlt, hstep, hbad, fun h => absurd (show 0 ≤ st.ws from h) (by omega)⟩, by simp only; omega, ⟨⟨rfl, rfl, rfl, rfl, rfl, rfl, rfl, trivial⟩, ⟨rfl, ?_, trivial⟩⟩⟩
      show bWs _ = bWs _
      simp only
      rw [hnf st _ hw, hnf st _ hw]
    have hcm : st.com = false := hcm
    rw [if_neg (by rw [hcm]; simp)] at hstep
    (conv => whnf)
    refine ask_m (fun h35 => ?_) (fun h35 => ?_)
    · have h35 : c = 35 := by simpa using h35
      rw [if_neg (by omega), if_pos h35] at hstep
      (conv => whnf)
      rw [hkk]
      refine ⟨(k + 1, ⟨st.line, st.bgn, true, -1, fin s st k, false⟩), [], ⟨hlt, hstep, rfl, fun h => absurd (show (0 : Int) ≤ -1 from h) (by decide)⟩, by simp only; omega, ⟨⟨rfl, rfl, rfl, rfl, rfl, rfl, rfl, trivial⟩, ⟨rfl, ?_, trivial⟩⟩⟩
      exact (congrArg bWs (hnf ⟨st.line, st.bgn, true, -1, fin s st k, false⟩ (k + 1) rfl)).symm
    have h35 : ¬ c = 35 := by simpa using h35
    (conv => whnf)
    refine call_i (ref_permitted c) ?_
    (conv => whnf)
    refine ask_m (fun hp => ?_) (fun hp => ?_)
    · have hp : permB c = false := by simpa using hp
      have hw : wordB c = false := by
        simp [permB] at hp
        rcases hq : wordB c with _ | _
        · rfl
        · simp [wordB] at hq; omega
      have h329 : ¬ (c = 32 ∨ c = 9) := by simp [permB] at hp; omega
      rw [if_neg h329, if_neg h35, if_pos hw] at hstep
      have hB : (autoAt s (k + 1)).bad = true := by rw [hstep]
      have := auto_bad hB (s.size - (k + 1))
      rw [show k + 1 + (s.size - (k + 1)) = s.size by omega] at this
      rw [hsp, this, if_pos hB, hstep]
      (conv => whnf)
      refine retO [.own 2 Y.Word 3, .frz 2] ?_
      (conv => whnf)
      exact ⟨[], ⟨rfl, trivial⟩, trivial⟩
    have hp : permB c = true := by simpa using hp
    (conv => whnf)
    refine call_i (ref_inWord c) ?_
    (conv => whnf)
    refine ask_m (fun hw => ?_) (fun hw => ?_)
    · have hw : wordB c = true := hw
      have hws : st.ws = -1 := by
        have := hi.ws0
        rcases Int.lt_or_le st.ws 0 with h | h
        · omega
        · rcases hwk h with h | h
          · omega
          · rw [hw] at h; contradiction
      have h329 : ¬ (c = 32 ∨ c = 9) := by simp [wordB] at hw; omega
      rw [if_neg h329, if_neg h35, if_neg (by rw [hw]; simp), if_pos (by omega)] at hstep
      have hfin : fin s st k = st.words := hnf st k hws
      rw [hfin]
      (conv => whnf)
      refine loop_intro (fun j : Nat => ⟨[(0, Tx s), (3, .one (.vptr 0 0)), (4, .one (.row 1)), (5, I st.line), (6, I st.bgn), (7, Bo st.com), (8, I k), (10, I j)], [(0, vE 0 0), (1, bWs st.words)], 2⟩)
        (fun j => k ≤ j ∧ j ≤ s.size ∧ (j = k ∨ autoAt s j = ⟨st.line, st.bgn, false, k, st.words, false⟩)) (fun j => s.size - j) [] k [] ⟨Nat.le_refl _, hk, .inl rfl⟩ ⟨⟨rfl, rfl, rfl, rfl, rfl, rfl, rfl, rfl, trivial⟩, ⟨rfl, rfl, trivial⟩⟩ ?_
      rintro j ⟨hj1, hj2, hj3⟩
      -- where the word ends
      have stop : k < j → (j = s.size ∨ wordB (byteAt s j) = false) → ∀ Q : Prop, Q → Q := fun _ _ _ q => q
      (conv => whnf)
      refine ask_m (fun hjn => ?_) (fun hjn => ?_)
      · have hjn : j < s.size := by simp at hjn; omega
        have hjj : IntKind.i64.wrap ((j : Int) + 1) = ((j + 1 : Nat) : Int) := by rw [w64] <;> omega
        (conv => whnf)
        refine ⟨⟨by omega, by omega⟩, ?_⟩
        (conv => whnf)
        rw [Int.toNat_natCast]
        refine call_i (ref_inWord (byteAt s j)) ?_
        (conv => whnf)
        refine ask_m (fun hwj => ?_) (fun hwj => ?_)
        · have hwj : wordB (byteAt s j) = true := hwj
          (conv => whnf)
          refine ⟨j + 1, [], ⟨by omega, hjn, .inr ?_⟩, by omega, ⟨⟨rfl, rfl, rfl, rfl, rfl, rfl, rfl, eqI hjj, trivial⟩, ⟨rfl, rfl, trivial⟩⟩⟩
          rcases hj3 with rfl | hj3
          · exact hstep
          · have hl := wordB_low hwj
            have hne : ¬ byteAt s j = 10 ∧ ¬ (byteAt s j = 32 ∨ byteAt s j = 9) ∧ ¬ byteAt s j = 35 := by simp [wordB] at hwj; omega
            rw [auto_succ, hj3, stepS, if_neg (by simp), if_neg hne.1, if_neg (by simp), if_neg hne.2.1, if_neg hne.2.2, if_neg (by rw [hwj]; simp), if_neg (by show ¬ (k : Int) < 0; omega)]
        · have hwj : wordB (byteAt s j) = false := hwj
          have hkj : k < j := by
            rcases Nat.lt_or_ge k j with h | h
            · exact h
            · obtain rfl : j = k := by omega
              rw [hc, hw] at hwj; contradiction
          have hj3 := hj3.resolve_left (by omega)
          (conv => whnf)
          refine ⟨⟨by omega, by omega, by omega⟩, ?_⟩
          (conv => whnf)
          rw [w64 (x := (k : Int) - st.bgn) (by have := hi.bgn0; have := hi.bgn1; omega) (by have := hi.bgn0; omega), w64 (x := (k : Int) - st.bgn + 1) (by have := hi.bgn0; have := hi.bgn1; omega) (by have := hi.bgn0; omega), Int.toNat_natCast, Int.toNat_natCast]
          refine ⟨⟨by simp; omega, by simp; omega⟩, ?_⟩
          (conv => whnf)
          refine ⟨(j, ⟨st.line, st.bgn, false, k, st.words, false⟩), [(1, 3)], ⟨hj2, hj3, rfl, fun _ => .inr hwj⟩, by simp only; omega, ⟨⟨rfl, rfl, rfl, rfl, rfl, eqB hcm, rfl, trivial⟩, ⟨rfl, ?_, trivial⟩⟩⟩
          show Box.rows Y.Word 3 _ = Box.rows Y.Word 3 _
          refine congrArg _ ?_
          simp only [fin]
          rw [if_pos (by omega), List.map_append, Int.toNat_natCast]; rfl
      · have hjn : j = s.size := by simp at hjn; omega
        have hkj : k < j := by omega
        have hj3 := hj3.resolve_left (by omega)
        (conv => whnf)
        refine ⟨⟨by omega, by omega, by omega⟩, ?_⟩
        (conv => whnf)
        rw [w64 (x := (k : Int) - st.bgn) (by have := hi.bgn0; have := hi.bgn1; omega) (by have := hi.bgn0; omega), w64 (x := (k : Int) - st.bgn + 1) (by have := hi.bgn0; have := hi.bgn1; omega) (by have := hi.bgn0; omega), Int.toNat_natCast, Int.toNat_natCast]
        refine ⟨⟨by simp; omega, by simp; omega⟩, ?_⟩
        (conv => whnf)
        refine ⟨(j, ⟨st.line, st.bgn, false, k, st.words, false⟩), [(1, 3)], ⟨hj2, hj3, rfl, fun _ => .inl hjn⟩, by simp only; omega, ⟨⟨rfl, rfl, rfl, rfl, rfl, eqB hcm, rfl, trivial⟩, ⟨rfl, ?_, trivial⟩⟩⟩
        show Box.rows Y.Word 3 _ = Box.rows Y.Word 3 _
        refine congrArg _ ?_
        simp only [fin]
        rw [if_pos (by omega), List.map_append, Int.toNat_natCast]; rfl
    · have hw : wordB c = false := hw
      have h329 : c = 32 ∨ c = 9 := by simp [permB] at hp; simp [wordB] at hw; omega
      rw [if_pos h329] at hstep
      (conv => whnf)
      rw [hkk]
      refine ⟨(k + 1, ⟨st.line, st.bgn, false, -1, fin s st k, false⟩), [], ⟨hlt, hstep, rfl, fun h => absurd (show (0 : Int) ≤ -1 from h) (by decide)⟩, by simp only; omega, ⟨⟨rfl, rfl, rfl, rfl, rfl, eqB hcm, rfl, trivial⟩, ⟨rfl, ?_, trivial⟩⟩⟩
      exact (congrArg bWs (hnf ⟨st.line, st.bgn, false, -1, fin s st k, false⟩ (k + 1) rfl)).symm
  · have hk : k = s.size := by simp at h; omega
    subst hk
    rw [hst, if_neg (by rw [hbad]; simp)] at hsp
    rw [hsp]
    (conv => whnf)
    refine retO [.frz 1] ?_
    (conv => whnf)
    exact ⟨[], ⟨rfl, trivial⟩, trivial⟩
end Go.Proofs.YtafglmjadbplcaaGreatDoor

/- law7: ref.Parse. -/
namespace Go.Proofs.YtafglmjadbplcaaGreatDoor
open Eng
set_option maxRecDepth 10000
attribute [local irreducible] FnOk loopW idxF retX arrF findF

def knownB (w : ByteArray) : Bool := (countsOf w).isSome
theorem ref_Known (w : ByteArray) : FnOk Tryz.prog F.ref6_Known [Tx w] [] 0 (Bo (knownB w)) [] 0 := by
  refine fnOk tab mix G.ref6_Known rfl rfl (by kernel_rfl) rfl rfl ?_
  (conv => whnf)
  refine ask_m (fun h => ?_) (fun h => ?_)
  · have h : w = wJoint := of_decide_eq_true h
    (conv => whnf)
    refine ret0 ?_
    exact ret_b (by rw [knownB, countsOf, if_pos h]; rfl) rfl
  have n1 : ¬ w = wJoint := of_decide_eq_false h
  (conv => whnf)
  refine ask_m (fun h => ?_) (fun h => ?_)
  · have h : w = wLimit := of_decide_eq_true h
    (conv => whnf)
    refine ret0 ?_
    exact ret_b (by rw [knownB, countsOf, if_neg n1, if_pos h]; rfl) rfl
  have n2 : ¬ w = wLimit := of_decide_eq_false h
  (conv => whnf)
  refine ask_m (fun h => ?_) (fun h => ?_)
  · have h : w = wMass := of_decide_eq_true h
    (conv => whnf)
    refine ret0 ?_
    exact ret_b (by rw [knownB, countsOf, if_neg n1, if_neg n2, if_pos h]; rfl) rfl
  have n3 : ¬ w = wMass := of_decide_eq_false h
  (conv => whnf)
  refine ask_m (fun h => ?_) (fun h => ?_)
  · have h : w = wShape := of_decide_eq_true h
    (conv => whnf)
    refine ret0 ?_
    exact ret_b (by rw [knownB, countsOf, if_neg n1, if_neg n2, if_neg n3, if_pos h]; rfl) rfl
  have n4 : ¬ w = wShape := of_decide_eq_false h
  (conv => whnf)
  by_cases h : w = wSkip
  · (conv => whnf)
    refine ret0 ?_
    exact ret_b (by rw [knownB, countsOf, if_neg n1, if_neg n2, if_neg n3, if_neg n4, if_pos h]; exact decide_eq_true h) rfl
  · (conv => whnf)
    refine ret0 ?_
    exact ret_b (by rw [knownB, countsOf, if_neg n1, if_neg n2, if_neg n3, if_neg n4, if_neg h]; exact decide_eq_false h) rfl
/-- the statements from an open one on -/
def gTail (s : Stmt) (ws : List Word) : List Stmt := (ws.foldl gstep ([], some s)).1 ++ (ws.foldl gstep ([], some s)).2.toList
theorem gstep_pre (ws : List Word) : ∀ (rs : List Stmt) (o : Option Stmt), ws.foldl gstep (rs, o) = (rs ++ (ws.foldl gstep ([], o)).1, (ws.foldl gstep ([], o)).2) := by
  induction ws with
  | nil => intro rs o; simp
  | cons w ws ih =>
    intro rs o
    cases o with
    | none => simp only [List.foldl_cons, gstep]; exact ih rs _
    | some s =>
      simp only [List.foldl_cons, gstep]
      split
      · exact ih rs _
      · rw [ih, ih ([] ++ [s])]; simp
theorem group_cons (w : Word) (ws : List Word) : groupOf (w :: ws) = gTail ⟨w.line, w.text, []⟩ ws := rfl
theorem tail_same {s : Stmt} {w : Word} {ws : List Word} (h : s.line = w.line) : gTail s (w :: ws) = gTail ⟨s.line, s.word, s.args ++ [w.text]⟩ ws := by
  simp only [gTail, List.foldl_cons, gstep, if_pos h]
theorem tail_other {s : Stmt} {w : Word} {ws : List Word} (h : ¬ s.line = w.line) : gTail s (w :: ws) = s :: groupOf (w :: ws) := by
  rw [group_cons]
  simp only [gTail, List.foldl_cons, gstep, if_neg h]
  rw [gstep_pre]; simp
theorem tail_nil (s : Stmt) : gTail s [] = s :: groupOf [] := rfl
theorem checkOf_big {i : Nat} {s : Stmt} (h : 256 ≤ i) : checkOf i s = 703 := by rw [checkOf, if_pos h]
theorem checkOf_small {i : Nat} {s : Stmt} (h : ¬ 256 ≤ i) : checkOf i s = if knownB s.word then if argsB s.word s.args.length then 0 else 702 else 701 := by
  rw [checkOf, if_neg h, knownB, argsB]
  cases countsOf s.word <;> rfl
theorem ref_Parse (src : ByteArray) : FnOk Tryz.prog F.ref6_Parse [Tx src] [] 0 (PaR (parseOf src)) [] 0 := by
  refine fnOk tab mix G.ref6_Parse rfl rfl (by kernel_rfl) rfl rfl ?_
  (conv => whnf)
  refine call_i (ref_Split src) ?_
  (conv => whnf)
  have hsl := split_len src
  refine ask_m (fun h => ?_) (fun h => ?_)
  · have h : (splitOf src).2.1 ≠ 0 := by simpa using h
    have e : parseOf src = ([], (splitOf src).2) := by rw [parseOf, if_pos h]
    rw [e]
    (conv => whnf)
    refine retO [.own 2 Y.Statement 3, .frz 2] ?_
    (conv => whnf)
    exact ⟨[], ⟨rfl, trivial⟩, trivial⟩
  have h0 : ¬ (splitOf src).2.1 ≠ 0 := by simpa using h
  have e0 : parseOf src = match firstErr 0 (groupOf (splitOf src).1) with
    | some e => ([], e)
    | none => (groupOf (splitOf src).1, 0, 0) := by rw [parseOf, if_neg h0] <;> rfl
  (conv => whnf)
  generalize (splitOf src).1 = ws at *
  refine loop_intro (fun p : Nat × List Stmt => ⟨[(2, .one (.nil 3)), (3, .one (.vptr 0 0)), (4, .one (.dv (dWs ws))), (6, .one (.row 1)), (7, I p.1)], [(0, vE 0 0), (1, .rows Y.Statement 3 (p.2.map encSt))], 2⟩)
    (fun p => p.1 ≤ ws.length ∧ p.2.length ≤ 256 ∧ groupOf ws = p.2 ++ groupOf (ws.drop p.1) ∧ firstErr 0 (groupOf ws) = firstErr p.2.length (groupOf (ws.drop p.1))) (fun p => ws.length - p.1) [.own 6 Y.Statement 3] (0, []) [(1, 2)] ⟨Nat.zero_le _, Nat.zero_le _, rfl, rfl⟩ ⟨⟨rfl, rfl, rfl, rfl, rfl, trivial⟩, ⟨rfl, rfl, trivial⟩⟩ ?_
  rintro ⟨k, out⟩ ⟨hk, ho, hg, hf⟩
  simp only at hk ho hg hf
  (conv => whnf)
  refine ask_m (fun h => ?_) (fun h => ?_)
  · have hlt : k < ws.length := by have := of_decide_eq_true h; simp at this; omega
    obtain ⟨w, hw⟩ : ∃ w, ws[k]? = some w := ⟨_, List.getElem?_eq_getElem hlt⟩
    have hkk : IntKind.i64.wrap ((k : Int) + 1) = ((k + 1 : Nat) : Int) := by rw [w64] <;> omega
    rw [drop_cons hw, group_cons] at hg hf
    (conv => whnf)
    refine idx_and (by omega) (by simpa using hw) ?_
    (conv => whnf)
    refine idx_and (by omega) (by simpa using hw) ?_
    (conv => whnf)
    rw [hkk]
    refine loop_intro (fun p : Nat × List ByteArray => ⟨[(2, .one (.nil 3)), (3, .one (.vptr 0 0)), (4, .one (.dv (dWs ws))), (6, .one (.row 1)), (7, I p.1), (8, .one (.vptr 2 0))], [(0, vE 0 0), (1, .rows Y.Statement 3 (out.map encSt)), (2, .vars Y.Statement [.dv (.int .i64 w.line), .dv (.str w.text), .row 3]), (3, .rows Y.string 1 (p.2.map encA))], 4⟩)
      (fun p => k < p.1 ∧ p.1 ≤ ws.length ∧ p.2.length ≤ p.1 ∧ gTail ⟨w.line, w.text, []⟩ (ws.drop (k + 1)) = gTail ⟨w.line, w.text, p.2⟩ (ws.drop p.1)) (fun p => ws.length - p.1) [.ownC 2 2 Y.string 1] (k + 1, []) [] ⟨Nat.lt_succ_self _, hlt, Nat.zero_le _, rfl⟩ ⟨⟨rfl, rfl, rfl, rfl, rfl, rfl, trivial⟩, ⟨rfl, rfl, rfl, rfl, trivial⟩⟩ ?_
    rintro ⟨i, xs⟩ ⟨hki, hi, hxs, ht⟩
    simp only at hki hi hxs ht
    have hend : (ws.drop i = [] ∨ ∃ v, ws[i]? = some v ∧ ¬ v.line = w.line) → gTail ⟨w.line, w.text, xs⟩ (ws.drop i) = ⟨w.line, w.text, xs⟩ :: groupOf (ws.drop i) := by
      rintro (h | ⟨v, hv, hn⟩)
      · rw [h]; rfl
      · rw [drop_cons hv]; exact tail_other fun e => hn e.symm
    have hrest : gTail ⟨w.line, w.text, xs⟩ (ws.drop i) = ⟨w.line, w.text, xs⟩ :: groupOf (ws.drop i) → True := fun _ => trivial
    by_cases hin : ∃ v, ws[i]? = some v ∧ v.line = w.line
    · obtain ⟨v, hv, hvl⟩ := hin
      have hil : i < ws.length := (List.getElem?_eq_some_iff.1 hv).1
      have hii : IntKind.i64.wrap ((i : Int) + 1) = ((i + 1 : Nat) : Int) := by rw [w64] <;> omega
      (conv => whnf)
      refine ask_mt (decide_eq_true (by simp; omega)) ?_
      (conv => whnf)
      refine idx_and (by omega) (by simpa using hv) ?_
      (conv => whnf)
      refine ask_mt (by simpa using hvl) ?_
      (conv => whnf)
      refine idx_and (by omega) (by simpa using hv) ?_
      (conv => whnf)
      refine ⟨⟨by simp; omega, by simp; omega⟩, ?_⟩
      (conv => whnf)
      refine ⟨(i + 1, xs ++ [v.text]), [(3, 5)], ⟨by omega, hil, by simp; omega, ?_⟩, by simp only; omega, ⟨⟨rfl, rfl, rfl, rfl, eqI hii, rfl, trivial⟩, ⟨rfl, rfl, rfl, ?_, trivial⟩⟩⟩
      · rw [ht, drop_cons hv, tail_same (by exact hvl.symm)]
      · exact congrArg (Box.rows Y.string 1) (show xs.map encA ++ [[.str v.text]] = (xs ++ [v.text]).map encA by simp [encA])
    · have hx : ws.drop i = [] ∨ ∃ v, ws[i]? = some v ∧ ¬ v.line = w.line := by
        by_cases hil : i < ws.length
        · exact .inr ⟨_, List.getElem?_eq_getElem hil, fun e => hin ⟨_, List.getElem?_eq_getElem hil, e⟩⟩
        · exact .inl (List.drop_eq_nil_of_le (by omega))
      have ht2 := ht.trans (hend hx)
      rw [ht2] at hg hf
      have hbo : ¬ 256 ≤ out.length → out.length < 256 := by omega
      by_cases hil : i < ws.length
      case' pos =>
        obtain ⟨v, hv⟩ : ∃ v, ws[i]? = some v := ⟨_, List.getElem?_eq_getElem hil⟩
        have hvl : ¬ v.line = w.line := fun e => hin ⟨v, hv, e⟩
        (conv => whnf)
        refine ask_mt (decide_eq_true (by simp; omega)) ?_
        (conv => whnf)
        refine idx_and (by omega) (by simpa using hv) ?_
        (conv => whnf)
        refine ask_mf (by simpa using hvl) ?_
        (conv => whnf)
      case' neg =>
        (conv => whnf)
        refine ask_mf (decide_eq_false (by simp; omega)) ?_
        (conv => whnf)
      all_goals
        rw [firstErr] at hf
        refine ask_m (fun h => ?_) (fun h => ?_)
        · have h : 256 ≤ out.length := by have := of_decide_eq_true h; simp at this; omega
          rw [checkOf_big h, if_neg (by decide)] at hf
          rw [hf] at e0
          simp only at e0
          rw [e0]
          (conv => whnf)
          refine retO [.own 2 Y.Statement 3, .frz 4] ?_
          (conv => whnf)
          exact ⟨[], ⟨rfl, trivial⟩, trivial⟩
        have h : ¬ 256 ≤ out.length := by have := of_decide_eq_false h; simp at this; omega
        rw [checkOf_small h] at hf
        simp only at hf
        (conv => whnf)
        refine call_i (ref_Known w.text) ?_
        (conv => whnf)
        cases hkn : knownB w.text with
        | false =>
          rw [hkn, if_neg (show ¬ (false = true) by decide), if_neg (show ¬ (701 : Int) = 0 by decide)] at hf
          rw [hf] at e0
          simp only at e0
          rw [e0]
          (conv => whnf)
          (conv => whnf)
          refine retO [.own 2 Y.Statement 3, .frz 4] ?_
          (conv => whnf)
          exact ⟨[], ⟨rfl, trivial⟩, trivial⟩
        | true =>
          rw [hkn, if_pos rfl] at hf
          (conv => whnf)
          refine call_i (ref_Arguments w.text ((xs.map encA).length)) ?_
          (conv => whnf)
          rw [List.length_map]
          cases har : argsB w.text xs.length with
          | false =>
            rw [har, if_neg (show ¬ (false = true) by decide), if_neg (show ¬ (702 : Int) = 0 by decide)] at hf
            rw [hf] at e0
            simp only at e0
            rw [e0]
            (conv => whnf)
            (conv => whnf)
            refine retO [.own 2 Y.Statement 3, .frz 4] ?_
            (conv => whnf)
            exact ⟨[], ⟨rfl, trivial⟩, trivial⟩
          | true =>
            rw [har, if_pos rfl, if_pos rfl] at hf
            (conv => whnf)
            refine ⟨⟨by simp; omega, by simp; omega⟩, ?_⟩
            (conv => whnf)
            refine ⟨(i, out ++ [⟨w.line, w.text, xs⟩]), [(1, 5)], ⟨hi, by simp; omega, by rw [hg]; simp, by rw [hf]; simp⟩, by simp only; omega, ⟨⟨rfl, rfl, rfl, rfl, rfl, trivial⟩, ⟨rfl, ?_, trivial⟩⟩⟩
            exact congrArg (Box.rows Y.Statement 3) (show out.map encSt ++ [[.int .i64 w.line, .str w.text, .lst 1 (xs.map encA)]] = (out ++ [Stmt.mk w.line w.text xs]).map encSt by rw [List.map_append]; rfl)
  · have hk : k = ws.length := by have := of_decide_eq_false h; simp at this; omega
    subst hk
    rw [List.drop_length] at hg hf
    have e1 : groupOf ([] : List Word) = [] := rfl
    rw [e1, firstErr] at hf
    rw [e1, List.append_nil] at hg
    rw [hf, hg] at e0
    simp only at e0
    rw [e0]
    (conv => whnf)
    refine retO [.frz 1] ?_
    (conv => whnf)
    exact ⟨[], ⟨rfl, trivial⟩, trivial⟩
end Go.Proofs.YtafglmjadbplcaaGreatDoor

/- Bytes and texts as parameters; tables of texts. -/
namespace Go.Proofs.YtafglmjadbplcaaGreatDoor
open Eng
set_option maxRecDepth 10000

def encB (n : Int) : List DV := [.int .u8 n]
abbrev Lb (xs : List Int) : SV := .one (.dv (.lst 1 (xs.map encB)))
def bytesOk (xs : List Int) : Prop := xs.length ≤ 140737488351232 ∧ ∀ x ∈ xs, 0 ≤ x ∧ x < 256
theorem wf_u8 {a : Int} (h : (Lit.int .u8 a).wf = true) : 0 ≤ a ∧ a < 256 := by
  have h' : IntKind.u8.min ≤ a ∧ a ≤ IntKind.u8.max := by simpa [Lit.wf] using h
  have e1 : IntKind.u8.min = 0 := by decide
  have e2 : IntKind.u8.max = 255 := by decide
  omega
theorem tyB_uint8 {n : Nat} {ds : List DV} (h : Typed T (n + 1) Y.uint8 ds) : ∃ a, ds = encB a ∧ 0 ≤ a ∧ a < 256 := by
  obtain ⟨a, h1, h2⟩ := h
  exact ⟨a, h1, wf_u8 h2⟩
theorem tyB_s_uint8 {n : Nat} {ds : List DV} (h : Typed T (n + 2) Y.s_uint8 ds) : ∃ xs : List Int, ds = [.lst 1 (xs.map encB)] ∧ bytesOk xs := by
  obtain ⟨rs, h1, h2, _, h3⟩ := h
  have key : ∀ rs : List (List DV), (∀ r ∈ rs, Typed T (n + 1) Y.uint8 r) → ∃ xs : List Int, rs = xs.map encB ∧ ∀ x ∈ xs, 0 ≤ x ∧ x < 256 := by
    intro rs
    induction rs with
    | nil => intro _; exact ⟨[], rfl, by simp⟩
    | cons r rs ih =>
      intro h
      obtain ⟨a, e, ha⟩ := tyB_uint8 (h r (by simp))
      obtain ⟨xs, e', hx⟩ := ih fun r hr => h r (by simp [hr])
      exact ⟨a :: xs, by rw [e, e']; rfl, fun x hx' => by
        rcases List.mem_cons.1 hx' with rfl | hx'
        · exact ha
        · exact hx x hx'⟩
  obtain ⟨xs, rfl, hx⟩ := key rs h3
  refine ⟨xs, h1, ?_, hx⟩
  have : xs.length * 1 ≤ reachBytes := by simpa using h2
  unfold reachBytes at this; omega
theorem tyB_string {n : Nat} {ds : List DV} (h : Typed T (n + 1) Y.string ds) : ∃ s : ByteArray, ds = [.str s] ∧ s.size ≤ 140737488351232 := by
  obtain ⟨s, h1, h2⟩ := h
  refine ⟨s, h1, ?_⟩
  unfold reachBytes at h2; omega
/-- the text of a table -/
theorem arr_text {te : TI} {tb : List ByteArray} {i : Nat} {s : ByteArray} {k : SV → Prop} (ha : te.kind.agg = false) (hs : te.size = 1) (hc : tb[i]? = some s) (h : k (Tx s)) : arrF te (tb.map fun s => CV.dv (.str s)) i k :=
  arr_at ha hs (by rw [List.getElem?_map, hc]; rfl) h
/-- texts of a table, one behind the other -/
def cat (f : Int → ByteArray) (xs : List Int) : ByteArray := xs.foldl (fun s x => s ++ f x) ByteArray.empty
theorem cat_succ {f : Int → ByteArray} {xs : List Int} {k : Nat} {x : Int} (h : xs[k]? = some x) : cat f (xs.take (k + 1)) = cat f (xs.take k) ++ f x := by
  rw [List.take_add_one, h, cat, List.foldl_append]; rfl
theorem cat_size {f : Int → ByteArray} {c : Nat} (hf : ∀ x, (f x).size ≤ c) (xs : List Int) : (cat f xs).size ≤ xs.length * c := by
  have key : ∀ (xs : List Int) (s : ByteArray), (xs.foldl (fun s x => s ++ f x) s).size ≤ s.size + xs.length * c := by
    intro xs
    induction xs with
    | nil => intro s; simp
    | cons x xs ih =>
      intro s
      have := ih (s ++ f x)
      rw [ByteArray.size_append] at this
      have := hf x
      simp only [List.foldl_cons, List.length_cons, Nat.succ_mul]
      omega
  have := key xs ByteArray.empty
  simpa [cat] using this
theorem u8mod {x m : Int} (h0 : 0 ≤ x) (hm : 0 < m) : x.tmod m = x % m := Int.tmod_eq_emod_of_nonneg h0
end Go.Proofs.YtafglmjadbplcaaGreatDoor

/- Common ground: sources; data of the parameters' types. -/
namespace Go.Proofs.YtafglmjadbplcaaGreatDoor
open Eng
set_option maxRecDepth 10000
attribute [local irreducible] FnOk loopW idxF retX arrF

theorem mk_Round (x m : Int) (hm : 0 < m) (hm2 : m ≤ 4611686018427387904) : FnOk Tryz.prog F.mk_Round [I x, I m] [] 0 (I (x % m)) [] 0 := by
  refine fnOk tab mix G.mk_Round rfl rfl (by kernel_rfl) rfl rfl ?_
  obtain ⟨h1, h2, h3, h4⟩ := tmod_pos (x := x) hm
  (conv => whnf)
  refine ⟨by omega, ?_⟩
  repeat' ((conv => whnf); first | refine ask_m (fun h => ?_) (fun h => ?_) | refine ret0 ?_)
  all_goals (conv => whnf)
  · have h : x.tmod m < 0 := by simpa using h
    exact ret_i (by rw [w64 (by omega) (by omega)]; exact h1 h) rfl
  · have h : ¬ x.tmod m < 0 := by simpa using h
    exact ret_i (h2 (by omega)) rfl

/- sources -/
abbrev Src (xs : List Int) (k : Nat) : Box := .vars Y.mk_Source [.dv (.lst 1 (xs.map encI)), .dv (.int .i64 k)]
def nxt (xs : List Int) (k : Nat) (m : Int) : Int := match xs[k]? with
  | some x => x % m
  | none => 0
def adv (xs : List Int) (k : Nat) : Nat := if k < xs.length then k + 1 else k
theorem nxt_bd {l : List Int} {j : Nat} {m : Int} (hm : 0 < m) : 0 ≤ nxt l j m ∧ nxt l j m < m := by
  unfold nxt; split
  · exact ⟨Int.emod_nonneg _ (by omega), Int.emod_lt_of_pos _ (by omega)⟩
  · omega
theorem mk_From_k (xs : List Int) : FnOk Tryz.prog F.mk_From [Li xs] [] 0 (.one (.vptr 0 0)) [(0, Src xs 0)] 1 := by
  refine fnOk tab mix G.mk_From rfl rfl (by kernel_rfl) rfl rfl ?_
  repeat' ((conv => whnf); first | refine ask_m (fun h => ?_) (fun h => ?_) | refine ret0 ?_)
  exact ⟨[], ⟨rfl, trivial⟩, ⟨rfl, trivial⟩⟩
theorem mk_Next_k (xs : List Int) (k : Nat) (m : Int) (hm : 0 < m) (hm2 : m ≤ 4611686018427387904) (hx : xs.length ≤ 4611686018427387904) (hk : k ≤ xs.length) : FnOk Tryz.prog F.mk_Source_Next [.one (.vptr 0 0), I m] [(0, Src xs k)] 1 (I (nxt xs k m)) [(0, Src xs (adv xs k))] 1 := by
  refine fnOk tab mix G.mk_Source_Next rfl rfl (by kernel_rfl) rfl rfl ?_
  repeat' ((conv => whnf); first | refine ask_m (fun h => ?_) (fun h => ?_) | refine ret0 ?_)
  · have hl : ¬ k < xs.length := by simp at h; omega
    have h1 : nxt xs k m = 0 := by unfold nxt; rw [List.getElem?_eq_none (by omega)]
    have h2 : adv xs k = k := by simp [adv, hl]
    rw [h1, h2]
    exact ⟨[], ⟨rfl, trivial⟩, ⟨rfl, trivial⟩⟩
  · have hl : k < xs.length := by simp at h; omega
    obtain ⟨x, hxk⟩ : ∃ x, xs[k]? = some x := ⟨_, List.getElem?_eq_getElem hl⟩
    have h1 : nxt xs k m = x % m := by unfold nxt; rw [hxk]
    have h2 : adv xs k = k + 1 := by simp [adv, hl]
    have w1 : IntKind.i64.wrap ((k : Int) + 1) = ((k + 1 : Nat) : Int) := by rw [w64] <;> omega
    have w2 : IntKind.i64.wrap (((k + 1 : Nat) : Int) - 1) = k := by rw [w64] <;> omega
    rw [h1, h2]
    (conv => whnf)
    rw [w1, w2]
    refine ⟨by omega, idx_map (by simpa using hxk) ?_⟩
    (conv => whnf)
    refine ⟨_, _, _, mk_Round x m hm hm2, ?_⟩
    (conv => whnf)
    refine ret0 ?_
    exact ⟨[], ⟨rfl, trivial⟩, ⟨rfl, trivial⟩⟩
/-- a source of which j numbers have been asked -/
abbrev SrcJ (l : List Int) (j : Nat) : Box := Src l (min j l.length)
theorem nxt_min {l : List Int} {j : Nat} {m : Int} : nxt l (min j l.length) m = nxt l j m := by
  unfold nxt
  by_cases h : j < l.length
  · rw [Nat.min_eq_left (by omega)]
  · rw [Nat.min_eq_right (by omega), List.getElem?_eq_none (Nat.le_refl _), List.getElem?_eq_none (by omega)]
theorem adv_min {l : List Int} {j : Nat} : adv l (min j l.length) = min (j + 1) l.length := by
  unfold adv; split <;> omega
theorem mk_Next (l : List Int) (j : Nat) (m : Int) (hm : 0 < m) (hm2 : m ≤ 4611686018427387904) (hl : l.length ≤ 4611686018427387904) : FnOk Tryz.prog F.mk_Source_Next [.one (.vptr 0 0), I m] [(0, SrcJ l j)] 1 (I (nxt l j m)) [(0, SrcJ l (j + 1))] 1 := by
  have := mk_Next_k l (min j l.length) m hm hm2 hl (by omega)
  rw [nxt_min, adv_min] at this
  exact this
theorem mk_From (l : List Int) : FnOk Tryz.prog F.mk_From [Li l] [] 0 (.one (.vptr 0 0)) [(0, SrcJ l 0)] 1 := by
  show FnOk Tryz.prog F.mk_From [Li l] [] 0 (.one (.vptr 0 0)) [(0, Src l (min 0 l.length))] 1
  rw [Nat.zero_min]
  exact mk_From_k l
theorem mk_Signed (l : List Int) (j : Nat) (m M : Int) (hM : 2 * m + 1 = M) (hm : 0 < m) (hm2 : m ≤ 1152921504606846976) (hl : l.length ≤ 4611686018427387904) : FnOk Tryz.prog F.mk_Source_Signed [.one (.vptr 0 0), I m] [(0, SrcJ l j)] 1 (I (nxt l j M - m)) [(0, SrcJ l (j + 1))] 1 := by
  refine fnOk tab mix G.mk_Source_Signed rfl rfl (by kernel_rfl) rfl rfl ?_
  have w1 : IntKind.i64.wrap (2 * m) = 2 * m := by rw [w64] <;> omega
  have w2 : IntKind.i64.wrap (2 * m + 1) = M := by rw [w64] <;> omega
  have hn := nxt_bd (l := l) (j := j) (m := M) (by omega)
  have w3 : IntKind.i64.wrap (nxt l j M - m) = nxt l j M - m := by rw [w64] <;> omega
  (conv => whnf)
  rw [w1, w2]
  refine ⟨_, _, _, mk_Next l j M (by omega) (by omega) hl, ?_⟩
  (conv => whnf)
  refine ret0 ?_
  exact ⟨[], ⟨eqI w3, trivial⟩, ⟨rfl, trivial⟩⟩

/- data of the parameters' types -/
theorem ty_int64 {n : Nat} {ds : List DV} (h : Typed T (n + 1) Y.int64 ds) : ∃ a, ds = encI a := by
  obtain ⟨a, h, _⟩ := h
  exact ⟨a, h⟩
theorem ty_int {n : Nat} {ds : List DV} (h : Typed T (n + 1) Y.int ds) : ∃ a, ds = encI a := by
  obtain ⟨a, h, _⟩ := h
  exact ⟨a, h⟩
theorem ty_s_int {n : Nat} {ds : List DV} (h : Typed T (n + 2) Y.s_int ds) : ∃ xs : List Int, ds = [.lst 1 (xs.map encI)] ∧ xs.length ≤ 17592186043904 := by
  obtain ⟨rs, h1, h2, _, h3⟩ := h
  obtain ⟨xs, rfl⟩ := map_of (enc := encI) fun r hr => ty_int (h3 r hr)
  refine ⟨xs, h1, ?_⟩
  have : xs.length * 8 ≤ reachBytes := by simpa using h2
  unfold reachBytes at this; omega
/- the same, each with a bound -/
theorem tyB_int {n : Nat} {ds : List DV} (h : Typed T (n + 1) Y.int ds) : ∃ a, ds = encI a ∧ True := by
  obtain ⟨a, h⟩ := ty_int h
  exact ⟨a, h, trivial⟩
theorem tyB_s_int {n : Nat} {ds : List DV} (h : Typed T (n + 2) Y.s_int ds) : ∃ xs : List Int, ds = [.lst 1 (xs.map encI)] ∧ xs.length ≤ 17592186043904 := ty_s_int h
end Go.Proofs.YtafglmjadbplcaaGreatDoor

/- law7: SameStatements, typical, awake; SyntaxParses, SyntaxArguments. -/
namespace Go.Proofs.YtafglmjadbplcaaGreatDoor
open Eng
set_option maxRecDepth 10000
attribute [local irreducible] FnOk loopW idxF retX arrF findF

def keyS (ln : Bool) (s : Stmt) : ByteArray × List ByteArray × Int := (s.word, s.args, if ln then s.line else 0)
def sameSt (ln : Bool) (a b : List Stmt) : Bool := decide (a.map (keyS ln) = b.map (keyS ln))
def typTab : List ByteArray := [⟨#[115, 107, 105, 112, 32, 97, 32, 98, 10]⟩, ⟨#[109, 97, 115, 115, 32, 97, 32, 49, 32, 48, 32, 48, 32, 48, 10]⟩, ⟨#[108, 105, 109, 105, 116, 32, 97, 32, 49, 32, 49, 32, 49, 10]⟩, ⟨#[106, 111, 105, 110, 116, 32, 97, 32, 116, 117, 114, 110, 122, 32, 119, 111, 114, 108, 100, 32, 48, 32, 48, 32, 48, 32, 48, 32, 49, 32, 49, 10]⟩, ⟨#[115, 104, 97, 112, 101, 32, 97, 32, 49, 32, 48, 32, 48, 32, 48, 10]⟩, ⟨#[115, 104, 97, 112, 101, 32, 97, 32, 49, 32, 48, 32, 48, 32, 48, 32, 49, 32, 49, 32, 49, 32, 35, 32, 116, 119, 111, 10]⟩, ⟨#[10]⟩, ⟨#[115, 107, 105, 112, 32, 97, 10]⟩, ⟨#[104, 111, 112, 10]⟩, ⟨#[32, 32, 115, 107, 105, 112, 32, 32, 120, 9, 121, 10]⟩, ⟨#[35, 32, 110, 111, 116, 101, 10]⟩, ⟨#[115, 104, 97, 112, 101, 32, 97, 32, 49, 32, 50, 32, 51, 32, 52, 32, 53, 10]⟩]
def typF (x : Int) : ByteArray := typTab.getD (x % 12).toNat ByteArray.empty
theorem typF_size (x : Int) : (typF x).size ≤ 32 := by
  have h : ∀ k, k < 12 → (typTab.getD k ByteArray.empty).size ≤ 32 := by decide
  exact h _ (by omega)
theorem typF_at (x : Int) : typTab[(x % 12).toNat]? = some (typF x) := by
  have h : (x % 12).toNat < typTab.length := by show _ < 12; omega
  rw [typF, List.getD_eq_getElem?_getD, List.getElem?_eq_getElem h]; rfl
def typical (xs : List Int) : ByteArray := cat typF (xs.take 40)
theorem typical_size (xs : List Int) : (typical xs).size ≤ 1280 := by
  have := cat_size typF_size (xs.take 40)
  have : (xs.take 40).length ≤ 40 := by simp; omega
  unfold typical; omega
theorem cmpSE : cmpB Tryz.prog 8 Y.SourceError = true ∧ Tryz.prog.eqGuardType Tryz.prog.depth Y.SourceError = false := ⟨by kernel_rfl, by kernel_rfl⟩
theorem gTail_args (ws : List Word) : ∀ (s : Stmt) (n : Nat), s.args.length ≤ n → ∀ t ∈ gTail s ws, t.args.length ≤ n + ws.length := by
  induction ws with
  | nil => intro s n h t ht; simp [gTail] at ht; subst ht; simpa using h
  | cons w ws ih =>
    intro s n h t ht
    by_cases he : s.line = w.line
    · rw [tail_same he] at ht
      have := ih _ (n + 1) (by simp; omega) t ht
      simp; omega
    · rw [tail_other he, group_cons] at ht
      rcases List.mem_cons.1 ht with rfl | ht
      · omega
      · have := ih ⟨w.line, w.text, []⟩ n (by simp) t ht
        simp; omega
theorem group_args (ws : List Word) : ∀ t ∈ groupOf ws, t.args.length ≤ ws.length := by
  intro t ht
  cases ws with
  | nil => cases ht
  | cons w ws =>
    rw [group_cons] at ht
    have := gTail_args ws _ 0 (by simp) t ht
    simp; omega
theorem parse_len (s : ByteArray) : (parseOf s).1.length ≤ 16386 ∧ ∀ t ∈ (parseOf s).1, t.args.length ≤ 16385 := by
  have h1 := split_len s
  have h2 := group_len (splitOf s).1
  have h3 := group_args (splitOf s).1
  unfold parseOf
  split
  · exact ⟨by simp, fun t ht => by cases ht⟩
  · split
    · exact ⟨by simp, fun t ht => by cases ht⟩
    · exact ⟨by simp only; omega, fun t ht => by have := h3 t ht; omega⟩
end Go.Proofs.YtafglmjadbplcaaGreatDoor

/- law7: SyntaxArguments, SyntaxPrefix. -/
namespace Go.Proofs.YtafglmjadbplcaaGreatDoor
open Eng
set_option maxRecDepth 10000
attribute [local irreducible] FnOk loopW idxF retX arrF findF

def argTab : List ByteArray := [wJoint, wLimit, wMass, wShape, wSkip, ⟨#[119, 111, 114, 108, 100]⟩]
def argF (x : Int) : ByteArray := argTab.getD (x % 6).toNat ByteArray.empty
theorem argF_at (x : Int) : argTab[(x % 6).toNat]? = some (argF x) := by
  have h : (x % 6).toNat < argTab.length := by show _ < 6; omega
  rw [argF, List.getD_eq_getElem?_getD, List.getElem?_eq_getElem h]; rfl
/- a description in front of another one -/
theorem byte_app {s t : ByteArray} {i : Nat} (h : i < s.size) : byteAt (s ++ t) i = byteAt s i := by
  rw [byteAt_get h, byteAt_get (s := s ++ t) (by rw [ByteArray.size_append]; omega), ByteArray.getElem_append_left h]
theorem byte_app2 {s t : ByteArray} {i : Nat} (h : i < t.size) : byteAt (s ++ t) (s.size + i) = byteAt t i := by
  rw [byteAt_get h, byteAt_get (s := s ++ t) (by rw [ByteArray.size_append]; omega), ByteArray.getElem_append_right (by omega)]
  simp
theorem ext_app {s t : ByteArray} {a b : Nat} (h : b ≤ s.size) : (s ++ t).extract a b = s.extract a b := by
  apply ByteArray.ext
  rw [ByteArray.data_extract, ByteArray.data_extract, ByteArray.data_append]
  have : b ≤ s.data.size := h
  apply Array.ext
  · simp; omega
  · intro i h1 h2
    simp at h1 h2
    rw [Array.getElem_extract, Array.getElem_extract, Array.getElem_append_left (by omega)]
theorem fin_app {s t : ByteArray} {st : SS} {k : Nat} (h : k ≤ s.size) : fin (s ++ t) st k = fin s st k := by
  unfold fin; rw [ext_app h]
theorem auto_app (s t : ByteArray) : ∀ k, k ≤ s.size → autoAt (s ++ t) k = autoAt s k
  | 0, _ => rfl
  | k + 1, h => by
    rw [auto_succ, auto_succ, auto_app s t k (by omega)]
    unfold stepS
    rw [byte_app (by omega : k < s.size), fin_app (by omega : k ≤ s.size)]
def okB (c : Int) : Bool := decide (c = 9) || decide (c = 10) || (decide (32 ≤ c) && decide (c ≤ 126))
theorem auto_ok {s : ByteArray} (hs : ∀ i, i < s.size → okB (byteAt s i) = true) : ∀ k, k ≤ s.size → (autoAt s k).bad = false
  | 0, _ => rfl
  | k + 1, h => by
    have ih := auto_ok hs k (by omega)
    have hb := hs k (by omega)
    simp [okB] at hb
    rw [auto_succ]
    unfold stepS
    repeat' split
    all_goals first | exact ih | rfl | skip
    rename_i h1 h2 h3 h4 h5 h6
    simp [wordB] at h6
    omega
/-- what a description adds to what was read before -/
theorem auto_more (u : ByteArray) (k : Nat) : ∀ d, ∃ W, (autoAt u (k + d)).words = (autoAt u k).words ++ W ∧ (∀ w ∈ W, (autoAt u k).line ≤ w.line) ∧ (autoAt u k).line ≤ (autoAt u (k + d)).line ∧ ((autoAt u k).ws = -1 → ∃ W, fin u (autoAt u (k + d)) (k + d) = (autoAt u k).words ++ W ∧ (∀ w ∈ W, (autoAt u k).line ≤ w.line)) := by
  intro d
  have finW : ∀ (st : SS) (i : Nat) (W : List Word) (ws0 : List Word) (L : Int), st.words = ws0 ++ W → (∀ w ∈ W, L ≤ w.line) → L ≤ st.line → ∃ W, fin u st i = ws0 ++ W ∧ ∀ w ∈ W, L ≤ w.line := by
    intro st i W ws0 L h1 h2 h3
    unfold fin
    split
    · refine ⟨W ++ [⟨u.extract st.ws.toNat i, st.line, st.ws - st.bgn + 1⟩], by rw [h1, List.append_assoc], fun w hw => ?_⟩
      rcases List.mem_append.1 hw with hw | hw
      · exact h2 w hw
      · simp only [List.mem_singleton] at hw; subst hw; exact h3
    · exact ⟨W, h1, h2⟩
  have key : ∃ W, (autoAt u (k + d)).words = (autoAt u k).words ++ W ∧ (∀ w ∈ W, (autoAt u k).line ≤ w.line) ∧ (autoAt u k).line ≤ (autoAt u (k + d)).line := by
    induction d with
    | zero => exact ⟨[], by simp, by simp, Int.le_refl _⟩
    | succ d ih =>
      obtain ⟨W, h1, h2, h3⟩ := ih
      rw [← Nat.add_assoc, auto_succ]
      obtain ⟨W', f1, f2⟩ := finW (autoAt u (k + d)) (k + d) W _ _ h1 h2 h3
      generalize autoAt u (k + d) = st at *
      unfold stepS
      repeat' split
      all_goals first
        | exact ⟨W, h1, h2, h3⟩
        | exact ⟨W', f1, f2, by simp only; omega⟩
  obtain ⟨W, h1, h2, h3⟩ := key
  exact ⟨W, h1, h2, h3, fun _ => finW _ _ W _ _ h1 h2 h3⟩
theorem auto_lines (s : ByteArray) : ∀ k, ∀ w ∈ (autoAt s k).words, w.line ≤ (autoAt s k).line
  | 0 => fun w hw => by cases hw
  | k + 1 => by
    have ih := auto_lines s k
    rw [auto_succ]
    have hf : ∀ w ∈ fin s (autoAt s k) k, w.line ≤ (autoAt s k).line := by
      intro w hw
      unfold fin at hw
      split at hw
      · rcases List.mem_append.1 hw with hw | hw
        · exact ih w hw
        · simp only [List.mem_singleton] at hw; subst hw; exact Int.le_refl _
      · exact ih w hw
    generalize autoAt s k = st at *
    unfold stepS
    repeat' split
    all_goals first
      | exact ih
      | exact hf
      | (intro w hw; have := hf w hw; simp only; omega)
/-- a description that is empty or ends with its line -/
def Ends (s : ByteArray) : Prop := s.size = 0 ∨ byteAt s (s.size - 1) = 10
theorem ends_ws {s : ByteArray} (h : Ends s) (hb : (autoAt s s.size).bad = false) : (autoAt s s.size).ws = -1 ∧ ∀ w ∈ (autoAt s s.size).words, w.line < (autoAt s s.size).line := by
  rcases h with h | h
  · rw [h]; exact ⟨rfl, fun w hw => by cases hw⟩
  · by_cases h0 : s.size = 0
    · rw [h0]; exact ⟨rfl, fun w hw => by cases hw⟩
    obtain ⟨k, hk⟩ : ∃ k, s.size = k + 1 := ⟨s.size - 1, by omega⟩
    rw [hk] at h hb ⊢
    rw [Nat.add_sub_cancel] at h
    have hb0 : (autoAt s k).bad = false := by
      cases hb1 : (autoAt s k).bad with
      | false => rfl
      | true => rw [auto_bad hb1 1, hb1] at hb; cases hb
    have hl := auto_lines s (k + 1)
    have hl0 := auto_lines s k
    rw [auto_succ] at hl ⊢
    unfold stepS
    rw [if_neg (by rw [hb0]; decide), if_pos h]
    refine ⟨rfl, fun w hw => ?_⟩
    simp only at hw ⊢
    unfold fin at hw
    split at hw
    · rcases List.mem_append.1 hw with hw | hw
      · have := hl0 w hw; omega
      · simp only [List.mem_singleton] at hw; subst hw; simp only; omega
    · have := hl0 w hw; omega
theorem tail_app {b : List Word} {v : Word} : ∀ (a : List Word) (s : Stmt), ¬ s.line = v.line → (∀ w ∈ a, ¬ w.line = v.line) → gTail s (a ++ v :: b) = gTail s a ++ groupOf (v :: b)
  | [], s, h, _ => by rw [List.nil_append, tail_other h]; rfl
  | w :: a, s, h, ha => by
    rw [List.cons_append]
    by_cases he : s.line = w.line
    · rw [tail_same he, tail_same he]
      exact tail_app a _ h fun w hw => ha w (by simp [hw])
    · rw [tail_other he, tail_other he, group_cons, group_cons, tail_app a _ (ha w (by simp)) fun w hw => ha w (by simp [hw])]
      rfl
theorem group_app {a b : List Word} {L : Int} (ha : ∀ w ∈ a, w.line < L) (hb : ∀ w ∈ b, L ≤ w.line) : groupOf (a ++ b) = groupOf a ++ groupOf b := by
  cases b with
  | nil => rw [List.append_nil]; exact (List.append_nil _).symm
  | cons v b =>
    have hv := hb v (by simp)
    cases a with
    | nil => rfl
    | cons w a =>
      rw [List.cons_append, group_cons, group_cons w a]
      exact tail_app a _ (by have := ha w (by simp); simp only; omega) fun w hw => by have := ha w (by simp [hw]); omega
theorem firstErr_app (b : List Stmt) : ∀ (a : List Stmt) (i : Nat), firstErr i (a ++ b) = match firstErr i a with
    | some e => some e
    | none => firstErr (i + a.length) b
  | [], i => rfl
  | s :: a, i => by
    rw [List.cons_append, firstErr, firstErr]
    split
    · rw [firstErr_app b a (i + 1), List.length_cons, show i + 1 + a.length = i + (a.length + 1) by omega]
    · rfl
theorem firstErr_ne {e : Int × Int} : ∀ (a : List Stmt) (i : Nat), firstErr i a = some e → e.1 ≠ 0
  | [], i, h => by cases h
  | s :: a, i, h => by
    rw [firstErr] at h
    split at h
    · exact firstErr_ne a _ h
    · rename_i hc
      injection h with h
      subst h; exact hc
theorem split_ok {s : ByteArray} (hs : ∀ i, i < s.size → okB (byteAt s i) = true) (hl : s.size ≤ 16384) : splitOf s = (fin s (autoAt s s.size) s.size, 0, 0) := by
  rw [splitOf, if_neg (by omega), if_neg (by rw [auto_ok hs _ (Nat.le_refl _)]; decide)]
theorem parse_prefix {s t : ByteArray} (hs : ∀ i, i < s.size → okB (byteAt s i) = true) (ht : ∀ i, i < t.size → okB (byteAt t i) = true) (he : Ends s) (hl : s.size + t.size ≤ 16384) :
    ((parseOf s).2.1 ≠ 0 → (parseOf (s ++ t)).2 = (parseOf s).2) ∧ ((parseOf s).2.1 = 0 → (parseOf (s ++ t)).2.1 = 0 → ∃ b, (parseOf (s ++ t)).1 = (parseOf s).1 ++ b) := by
  have hsz : (s ++ t).size = s.size + t.size := ByteArray.size_append
  have hu : ∀ i, i < (s ++ t).size → okB (byteAt (s ++ t) i) = true := by
    intro i hi
    by_cases h : i < s.size
    · rw [byte_app h]; exact hs i h
    · have := byte_app2 (s := s) (t := t) (i := i - s.size) (by omega)
      rw [show s.size + (i - s.size) = i by omega] at this
      rw [this]; exact ht _ (by omega)
  obtain ⟨w1, w2⟩ := ends_ws he (auto_ok hs _ (Nat.le_refl _))
  obtain ⟨_, _, _, _, hm⟩ := auto_more (s ++ t) s.size t.size
  rw [auto_app s t _ (Nat.le_refl _)] at hm
  obtain ⟨W, m1, m2⟩ := hm w1
  have e1 := split_ok hs (by omega)
  have e2 := split_ok hu (by omega)
  rw [hsz, m1] at e2
  have ef : fin s (autoAt s s.size) s.size = (autoAt s s.size).words := by rw [fin, if_neg (by omega)]
  rw [ef] at e1
  have hg := group_app w2 m2
  unfold parseOf
  rw [e1, e2]
  simp only [ne_eq, not_true, if_false]
  rw [hg, firstErr_app]
  cases h1 : firstErr 0 (groupOf (autoAt s s.size).words) with
  | some e =>
    have := firstErr_ne _ _ h1
    exact ⟨fun _ => rfl, fun h => absurd h this⟩
  | none =>
    simp only
    refine ⟨fun h => absurd trivial h, fun _ h => ?_⟩
    cases h2 : firstErr (0 + (groupOf (autoAt s s.size).words).length) (groupOf W) with
    | some e =>
      rw [h2] at h
      exact absurd h (firstErr_ne _ _ h2)
    | none => exact ⟨_, rfl⟩
theorem cat_app1 (f : Int → ByteArray) (xs : List Int) (x : Int) : cat f (xs ++ [x]) = cat f xs ++ f x := by
  rw [cat, List.foldl_append]; rfl
theorem typF_ok (x : Int) : (∀ i, i < (typF x).size → okB (byteAt (typF x) i) = true) ∧ 0 < (typF x).size ∧ byteAt (typF x) ((typF x).size - 1) = 10 := by
  have h : ∀ k, k < 12 → (∀ i, i < (typTab.getD k ByteArray.empty).size → okB (byteAt (typTab.getD k ByteArray.empty) i) = true) ∧ 0 < (typTab.getD k ByteArray.empty).size ∧ byteAt (typTab.getD k ByteArray.empty) ((typTab.getD k ByteArray.empty).size - 1) = 10 := by decide
  exact h _ (by omega)
theorem cat_typ (xs : List Int) : ∀ k, k ≤ xs.length → (∀ i, i < (cat typF (xs.take k)).size → okB (byteAt (cat typF (xs.take k)) i) = true) ∧ Ends (cat typF (xs.take k))
  | 0, _ => ⟨fun i hi => absurd hi (by show ¬ i < 0; omega), .inl rfl⟩
  | k + 1, h => by
    obtain ⟨h1, _⟩ := cat_typ xs k (by omega)
    obtain ⟨t1, t2, t3⟩ := typF_ok (xs[k]'(by omega))
    rw [cat_succ (List.getElem?_eq_getElem (by omega : k < xs.length))]
    generalize cat typF (xs.take k) = s at *
    generalize typF (xs[k]'(by omega)) = t at *
    refine ⟨fun i hi => ?_, .inr ?_⟩
    · rw [ByteArray.size_append] at hi
      by_cases hs : i < s.size
      · rw [byte_app hs]; exact h1 i hs
      · have := byte_app2 (s := s) (t := t) (i := i - s.size) (by omega)
        rw [show s.size + (i - s.size) = i by omega] at this
        rw [this]; exact t1 _ (by omega)
    · rw [ByteArray.size_append, show s.size + t.size - 1 = s.size + (t.size - 1) by omega, byte_app2 (by omega), t3]
theorem typical_ok (xs : List Int) : (∀ i, i < (typical xs).size → okB (byteAt (typical xs) i) = true) ∧ Ends (typical xs) := by
  have := cat_typ (xs.take 40) (xs.take 40).length (Nat.le_refl _)
  rwa [List.take_length] at this
end Go.Proofs.YtafglmjadbplcaaGreatDoor

/- ref.Decimal. -/
namespace Go.Proofs.YtafglmjadbplcaaGreatDoor
open Eng
set_option maxRecDepth 10000
attribute [local irreducible] FnOk loopW idxF retX arrF

def dig (d : Nat) : ByteArray := ⟨#[(48 + d).toUInt8]⟩
/-- the last k digits of n -/
def decB : Nat → Nat → ByteArray
  | 0, _ => ByteArray.empty
  | k + 1, n => dig (n / 10 ^ k % 10) ++ decB k n
theorem dig_cut (d : Nat) (h : d < 10) : (ByteArray.mk #[48, 49, 50, 51, 52, 53, 54, 55, 56, 57]).extract d (d + 1) = dig d := by
  have h' : ∀ d, d < 10 → (ByteArray.mk #[48, 49, 50, 51, 52, 53, 54, 55, 56, 57]).extract d (d + 1) = dig d := by decide
  exact h' d h
theorem decB_size (k n : Nat) : (decB k n).size = k := by
  induction k with
  | zero => rfl
  | succ k ih => rw [decB, ByteArray.size_append, ih]; show 1 + k = k + 1; omega
end Go.Proofs.YtafglmjadbplcaaGreatDoor

/- Digits of decimal texts. No program in sight. -/
namespace Go.Proofs.YtafglmjadbplcaaGreatDoor
open Eng
set_option maxRecDepth 10000

theorem byteAt_app {a b : ByteArray} {i : Nat} : byteAt (a ++ b) i = if i < a.size then byteAt a i else byteAt b (i - a.size) := by
  by_cases h1 : i < a.size
  · have h : i < (a ++ b).size := by rw [ByteArray.size_append]; omega
    rw [if_pos h1, byteAt_get h, byteAt_get h1, ByteArray.getElem_append_left h1]
  · rw [if_neg h1]
    by_cases h2 : i - a.size < b.size
    · have h : i < (a ++ b).size := by rw [ByteArray.size_append]; omega
      rw [byteAt_get h, byteAt_get h2, ByteArray.getElem_append_right (by omega)]
    · have g1 : ∀ (s : ByteArray) (k : Nat), s.size ≤ k → byteAt s k = 0 := fun s k hk => by
        unfold byteAt; rw [getElem?_neg s k (by omega)]; rfl
      rw [g1 _ _ (by rw [ByteArray.size_append]; omega), g1 _ _ (by omega)]
theorem dig_byte {d : Nat} (h : d < 10) : byteAt (dig d) 0 = 48 + d := by
  have : ∀ d, d < 10 → byteAt (dig d) 0 = 48 + (d : Int) := by decide
  exact this d h
theorem decB_byte (n : Nat) : ∀ (k i : Nat), i < k → byteAt (decB k n) i = 48 + (n / 10 ^ (k - 1 - i) % 10 : Nat)
  | 0, _, h => by omega
  | k + 1, i, h => by
    rw [decB, byteAt_app]
    have hs : (dig (n / 10 ^ k % 10)).size = 1 := rfl
    rw [hs]
    by_cases h0 : i < 1
    · obtain rfl : i = 0 := by omega
      rw [if_pos h0, dig_byte (by omega)]; simp
    · rw [if_neg h0, decB_byte n k (i - 1) (by omega)]
      rw [show k - 1 - (i - 1) = k + 1 - 1 - i by omega]
end Go.Proofs.YtafglmjadbplcaaGreatDoor

/- Variables that hold robots and scenes. -/
namespace Go.Proofs.YtafglmjadbplcaaGreatDoor
open Eng
abbrev bRo (r : Robot) : Box := .vars Y.Robot [.dv (dJs r.joints), .dv (dMs r.masses)]
abbrev bSc (s : Scene) : Box := .vars Y.Scene [.dv (dJs s.robot.joints), .dv (dMs s.robot.masses), .dv (dShs s.shapes), .dv (dSks s.skips)]
end Go.Proofs.YtafglmjadbplcaaGreatDoor

/- The reference's numbers and names as words: ref.Format, written, kindName, linkName. -/
namespace Go.Proofs.YtafglmjadbplcaaGreatDoor
open Eng
set_option maxRecDepth 10000
attribute [local irreducible] FnOk loopW idxF retX arrF

/-- how many digits a number has, at least k -/
def dl : Nat → Nat → Nat → Nat
  | 0, _, _ => 0
  | f + 1, n, k => if n = 0 ∧ k = 0 then 0 else dl f (n / 10) (k - 1) + 1
theorem dl_spec : ∀ (f n k : Nat), n < 10 ^ f → k ≤ f → n / 10 ^ dl f n k = 0 ∧ k ≤ dl f n k ∧ dl f n k ≤ f ∧ ∀ i, i < dl f n k → ¬ (n / 10 ^ i = 0 ∧ k ≤ i)
  | 0, n, k, hn, hk => by
    have : n = 0 := by simpa using hn
    subst this
    exact ⟨by simp, hk, Nat.le_refl _, fun i hi => absurd hi (Nat.not_lt_zero _)⟩
  | f + 1, n, k, hn, hk => by
    rw [dl]
    split
    · rename_i h
      exact ⟨by simp [h.1], by omega, by omega, fun i hi => absurd hi (Nat.not_lt_zero _)⟩
    · rename_i h
      obtain ⟨a, b, c, d⟩ := dl_spec f (n / 10) (k - 1) (by rw [Nat.pow_succ] at hn; omega) (by omega)
      have e : ∀ i, n / 10 ^ (i + 1) = n / 10 / 10 ^ i := fun i => by rw [Nat.pow_succ', Nat.div_div_eq_div_mul]
      refine ⟨by rw [e]; exact a, by omega, by omega, fun i hi => ?_⟩
      cases i with
      | zero => rintro ⟨h1, h2⟩; exact h ⟨by simpa using h1, by omega⟩
      | succ i => rintro ⟨h1, h2⟩; rw [e] at h1; exact d i (by omega) ⟨h1, by omega⟩
def decT (n k : Nat) : ByteArray := decB (dl 20 n k) n
theorem dl20 {n k : Nat} (hn : n ≤ 9223372036854775807) (hk : k ≤ 20) : n / 10 ^ dl 20 n k = 0 ∧ k ≤ dl 20 n k ∧ dl 20 n k ≤ 20 ∧ ∀ i, i < dl 20 n k → ¬ (n / 10 ^ i = 0 ∧ k ≤ i) :=
  dl_spec 20 n k (Nat.lt_of_le_of_lt hn (by decide)) hk
theorem decT_size {n k : Nat} (hn : n ≤ 9223372036854775807) (hk : k ≤ 20) : (decT n k).size ≤ 20 ∧ k ≤ (decT n k).size := by
  obtain ⟨_, b, c, _⟩ := dl20 hn hk
  rw [decT, decB_size]; exact ⟨c, b⟩
/-- without the zeros at the end -/
def trimN (t : ByteArray) : Nat → Nat
  | 0 => 0
  | n + 1 => if byteAt t n = 48 then trimN t n else n + 1
theorem trimN_le (t : ByteArray) : ∀ n, trimN t n ≤ n
  | 0 => Nat.le_refl _
  | n + 1 => by
    rw [trimN]; split
    · have := trimN_le t n; omega
    · exact Nat.le_refl _
def minusT : ByteArray := ⟨#[45]⟩
def dotT : ByteArray := ⟨#[46]⟩
def clampI (n : Int) : Int := max (-2147483648) (min n 2147483648)
def fracT (f : Nat) : ByteArray := (decT ((2 * f * 100000 + 65536) / 131072) 5).extract 0 (trimN (decT ((2 * f * 100000 + 65536) / 131072) 5) (decT ((2 * f * 100000 + 65536) / 131072) 5).size)
def fmtS (s : ByteArray) (a : Nat) : ByteArray := if a % 65536 = 0 then s ++ decT (a / 65536) 1 else ((s ++ decT (a / 65536) 1) ++ dotT) ++ fracT (a % 65536)
def fmtT (n : Int) : ByteArray := fmtS (if clampI n < 0 then minusT else ByteArray.empty) (clampI n).natAbs
theorem digs_zero (n : Nat) : ∀ k, (∀ i, i < k → n / 10 ^ i % 10 = 0) → n % 10 ^ k = 0
  | 0, _ => by simp [Nat.mod_one]
  | k + 1, h => by
    rw [Nat.mod_pow_succ, digs_zero n k fun i hi => h i (by omega), h k (by omega), Nat.mul_zero]
theorem decT_some {v : Nat} (h1 : 1 ≤ v) (h2 : v ≤ 99999) : ∃ i, i < (decT v 5).size ∧ byteAt (decT v 5) i ≠ 48 := by
  obtain ⟨a, b, c, d⟩ := dl20 (n := v) (k := 5) (by omega) (by omega)
  rw [decT, decB_size]
  generalize dl 20 v 5 = j at *
  by_cases hex : ∃ i, i < j ∧ v / 10 ^ i % 10 ≠ 0
  · obtain ⟨i, hi, hne⟩ := hex
    refine ⟨j - 1 - i, by omega, ?_⟩
    rw [decB_byte v j _ (by omega), show j - 1 - (j - 1 - i) = i by omega]
    omega
  · have := digs_zero v j fun i hi => Classical.byContradiction fun hne => hex ⟨i, hi, hne⟩
    have hlt : v < 10 ^ j := by
      rcases Nat.lt_or_ge v (10 ^ j) with h | h
      · exact h
      · have := Nat.div_pos h (Nat.pow_pos (by decide : 0 < 10)); omega
    rw [Nat.mod_eq_of_lt hlt] at this
    omega
theorem ext_byte {t : ByteArray} {k i : Nat} (hk : k ≤ t.size) (hi : i < k) : byteAt (t.extract 0 k) i = byteAt t i := by
  have hs : (t.extract 0 k).size = k := by simp; omega
  rw [byteAt_get (by omega), byteAt_get (by omega : i < t.size), ByteArray.getElem_extract]
  congr 2
  simp
theorem ext_ext {t : ByteArray} {k j : Nat} (hk : j ≤ k) (hk2 : k ≤ t.size) : (t.extract 0 k).extract 0 j = t.extract 0 j := by
  rw [ByteArray.extract_extract]; congr 1; omega
def kindTab : List ByteArray := [⟨#[102, 105, 120, 101, 100]⟩, ⟨#[116, 117, 114, 110, 120]⟩, ⟨#[116, 117, 114, 110, 121]⟩, ⟨#[116, 117, 114, 110, 122]⟩, ⟨#[115, 108, 105, 100, 101, 120]⟩, ⟨#[115, 108, 105, 100, 101, 121]⟩, ⟨#[115, 108, 105, 100, 101, 122]⟩]
def kindN (k : Int) : ByteArray := kindTab.getD k.toNat ByteArray.empty
theorem kindN_at {k : Int} (h0 : 0 ≤ k) (h6 : k ≤ 6) : kindTab[k.toNat]? = some (kindN k) := by
  have h : k.toNat < kindTab.length := by show _ < 7; omega
  rw [kindN, List.getD_eq_getElem?_getD, List.getElem?_eq_getElem h]; rfl
def linkN (js : List Joint) (k : Int) : ByteArray := if k = -1 then worldT else match js[k.toNat]? with
  | some j => j.name
  | none => ByteArray.empty
end Go.Proofs.YtafglmjadbplcaaGreatDoor

/- Names. No program in sight. -/
namespace Go.Proofs.YtafglmjadbplcaaGreatDoor
open Eng
set_option maxRecDepth 10000

theorem nameB_low {i : Nat} {c : Int} (h : nameB i c = true) : c < 128 := by
  simp only [nameB, letterB, digitB, Bool.or_eq_true, Bool.and_eq_true, decide_eq_true_eq] at h
  omega
theorem dec_name {s : ByteArray} {i : Nat} (h : i < s.size) : nameB i (Utf8.decode s i).1 = nameB i (byteAt s i) ∧ (nameB i (byteAt s i) = true → (Utf8.decode s i).2 = 1) := by
  have hb := byteAt_get h
  by_cases ha : (s[i]'h).toNat < 128
  · rw [decode_ascii s i h ha, hb]; exact ⟨rfl, fun _ => rfl⟩
  · have := (decode_high s i h (by omega)).1
    have h1 : nameB i (byteAt s i) = false := by
      rcases hn : nameB i (byteAt s i) with _ | _
      · rfl
      · have := nameB_low hn; omega
    have h2 : nameB i ((Utf8.decode s i).1 : Int) = false := by
      rcases hn : nameB i ((Utf8.decode s i).1 : Int) with _ | _
      · rfl
      · have := nameB_low hn; omega
    rw [h1, h2]; exact ⟨rfl, fun h => by cases h⟩
theorem names_take {s : ByteArray} {k : Nat} (h : ((List.range k).all fun i => nameB i (byteAt s i)) = true) (hk : nameB k (byteAt s k) = true) : ((List.range (k + 1)).all fun i => nameB i (byteAt s i)) = true := by
  rw [List.range_succ, List.all_append, h]; simp [hk]
theorem name_not {s : ByteArray} {k : Nat} (hk : k < s.size) (h : nameB k (byteAt s k) = false) : nameOk s = false := by
  have : ((List.range s.size).all fun i => nameB i (byteAt s i)) = false := by
    rw [List.all_eq_false]; exact ⟨k, by simpa using hk, by simp [h]⟩
  simp [nameOk, this]
end Go.Proofs.YtafglmjadbplcaaGreatDoor

/- The reference's Name. -/
namespace Go.Proofs.YtafglmjadbplcaaGreatDoor
open Eng
set_option maxRecDepth 10000
attribute [local irreducible] FnOk loopW idxF retX arrF

theorem ref_Name (s : ByteArray) : FnOk Tryz.prog F.ref6_Name [Tx s] [] 0 (Bo (nameOk s)) [] 0 := by
  refine fnOk tab mix G.ref6_Name rfl rfl (by kernel_rfl) rfl rfl ?_
  (conv => whnf)
  refine ask_m (fun h => ?_) (fun h => ?_)
  · (conv => whnf)
    refine ret0 ?_
    exact ret_b (by have : ¬ 1 ≤ s.size := by have := of_decide_eq_true h; omega
                    simp [nameOk, this]) rfl
  have h1 : 1 ≤ s.size := by have := of_decide_eq_false h; omega
  (conv => whnf)
  refine ask_m (fun h => ?_) (fun h => ?_)
  · (conv => whnf)
    refine ret0 ?_
    exact ret_b (by have : ¬ s.size ≤ 16 := by have := of_decide_eq_true h; omega
                    simp [nameOk, this]) rfl
  have h2 : s.size ≤ 16 := by have := of_decide_eq_false h; omega
  (conv => whnf)
  refine ask_m (fun h => ?_) (fun h => ?_)
  · (conv => whnf)
    refine ret0 ?_
    exact ret_b (by have : s = worldT := of_decide_eq_true h
                    subst this; rfl) rfl
  have h3 : decide (s = worldT) = false := h
  (conv => whnf)
  refine loop_intro (fun k : Nat => ⟨[(0, Tx s), (3, I k)], [], 0⟩) (fun k => k ≤ s.size ∧ ((List.range k).all fun i => nameB i (byteAt s i)) = true) (fun k => s.size - k) [] 0 [] ⟨Nat.zero_le _, rfl⟩ ⟨⟨rfl, rfl, trivial⟩, trivial⟩ ?_
  rintro k ⟨hk, hall⟩
  have hkk : IntKind.i64.wrap ((k : Int) + 1) = ((k + 1 : Nat) : Int) := by rw [w64] <;> omega
  (conv => whnf)
  refine ask_m (fun h => ?_) (fun h => ?_)
  · have hlt : k < s.size := by have := of_decide_eq_true h; omega
    have bad : nameB k (byteAt s k) = false → nameOk s = false := name_not hlt
    have good : nameB k (byteAt s k) = true → ((List.range (k + 1)).all fun i => nameB i (byteAt s i)) = true := fun h => names_take hall h
    have hN : nameB k (byteAt s k) = (letterB (byteAt s k) || (decide (k ≠ 0) && (digitB (byteAt s k) || decide (byteAt s k = 95)))) := rfl
    have ix : ((0 : Int) ≤ k ∧ (k : Int) < s.size) := ⟨by omega, by omega⟩
    have e1 : byteAt s (k : Int).toNat = byteAt s k := rfl
    clear h
    repeat' ((conv => whnf); first | refine ask_m (fun h => ?_) (fun h => ?_) | refine ⟨ix, ?_⟩ | refine ret0 ?_)
    all_goals (try rw [e1] at *)
    all_goals generalize byteAt s k = c at *
    all_goals first
      | (refine ret_b (bad ?_).symm rfl; clear bad good; simp_all [letterB, digitB]; done)
      | (refine ret_b (bad ?_).symm rfl; clear bad good; simp_all [letterB, digitB]; omega)
      | (refine ⟨k + 1, [], ⟨hlt, good ?_⟩, by omega, ⟨⟨rfl, eqI hkk, trivial⟩, trivial⟩⟩; clear bad good; simp_all [letterB, digitB]; done)
      | (refine ⟨k + 1, [], ⟨hlt, good ?_⟩, by omega, ⟨⟨rfl, eqI hkk, trivial⟩, trivial⟩⟩; clear bad good; simp_all [letterB, digitB]; omega)
  · have hk : k = s.size := by have := of_decide_eq_false h; omega
    subst hk
    (conv => whnf)
    refine ret0 ?_
    exact ret_b (by simp [nameOk, h1, h2, h3, hall]) rfl
end Go.Proofs.YtafglmjadbplcaaGreatDoor

/- Finding joints. No program in sight. -/
namespace Go.Proofs.YtafglmjadbplcaaGreatDoor
open Eng
set_option maxRecDepth 10000

theorem find_at : ∀ {js : List Joint} {i k : Nat} {j : Joint}, js[i]? = some j → (∀ (i' : Nat) (j' : Joint), i' < i → js[i']? = some j' → j'.name ≠ j.name) → find js j.name k = ((k + i : Nat) : Int)
  | [], _, _, _, h, _ => by simp at h
  | x :: js, 0, k, j, h, _ => by
    simp at h; subst h
    rw [find, if_pos rfl]; rfl
  | x :: js, i + 1, k, j, h, hn => by
    have h1 := hn 0 x (by omega) rfl
    rw [find, if_neg h1, find_at (i := i) (k := k + 1) (by simpa using h) fun i' j' hi hj => hn (i' + 1) j' (by omega) (by simpa using hj)]
    omega
theorem jointsErr_zero {js : List Joint} : ∀ {l : List Joint} {i : Nat}, (∀ (k : Nat) (j : Joint), l[k]? = some j → jointErr js (i + k) j = 0) → jointsErr js i l = 0
  | [], _, _ => rfl
  | x :: l, i, h => by
    have h0 : jointErr js i x = 0 := h 0 x rfl
    rw [jointsErr, if_pos h0]
    exact jointsErr_zero fun k j hj => by
      have := h (k + 1) j (by simpa using hj)
      rw [← this]; congr 1; omega
theorem reach_cases (k : Int) : reach k = 0 ∨ reach k = 524288 ∨ reach k = 4194304 := by
  unfold reach; repeat' split
  all_goals simp
def bodyOk (i : Nat) (j : Joint) : Prop := (0 ≤ j.kind ∧ j.kind ≤ 6) ∧ (-1 ≤ j.parent ∧ j.parent < (i : Int)) ∧ inV j.off 4194304 = true ∧ (j.lo ≤ j.hi ∧ - reach j.kind ≤ j.lo ∧ j.hi ≤ reach j.kind) ∧ (from1 j.weight 1024 && from1 j.speed 1048576 && from1 j.accel 1048576 && from1 j.torque 1099511627776) = true
theorem jointErr_zero {js : List Joint} {i : Nat} {j : Joint} (h1 : nameOk j.name = true) (h2 : find js j.name 0 = i) (h : bodyOk i j) : jointErr js i j = 0 := by
  obtain ⟨⟨a1, a2⟩, ⟨b1, b2⟩, c, ⟨d1, d2, d3⟩, e⟩ := h
  unfold jointErr
  rw [if_neg (by rw [h1, h2]; simp), if_neg (by omega), if_neg (by omega), if_neg (by rw [c]; simp), if_neg (by omega), if_neg (by rw [e]; simp)]
theorem jointErr_inv {js : List Joint} {i : Nat} {j : Joint} (h : jointErr js i j = 0) : nameOk j.name = true ∧ find js j.name 0 = i ∧ bodyOk i j := by
  unfold jointErr at h
  split at h
  · contradiction
  rename_i h1
  split at h
  · contradiction
  split at h
  · contradiction
  split at h
  · contradiction
  split at h
  · contradiction
  split at h
  · contradiction
  rename_i h4 h5 h6
  refine ⟨?_, ?_, ⟨by omega, by omega⟩, ⟨by omega, by omega⟩, by simpa using h4, ⟨by omega, by omega, by omega⟩, ?_⟩
  · cases h7 : nameOk j.name
    · exact absurd (.inl h7) h1
    · rfl
  · exact Decidable.byContradiction fun h7 => h1 (.inr h7)
  · exact (Bool.eq_false_or_eq_true _).resolve_right h6
end Go.Proofs.YtafglmjadbplcaaGreatDoor

/- The reference's checks: joints, robots. -/
namespace Go.Proofs.YtafglmjadbplcaaGreatDoor
open Eng
set_option maxRecDepth 10000
attribute [local irreducible] FnOk loopW idxF retX arrF

theorem ref_isLink (r : Robot) (k : Int) : FnOk Tryz.prog F.ref6_isLink [Ro r, I k] [] 0 (Bo (linkOk r.joints.length k)) [] 0 := by
  refine fnOk tab mix G.ref6_isLink rfl rfl (by kernel_rfl) rfl rfl ?_
  (conv => whnf)
  repeat' ((conv => whnf); first | refine ask_m (fun h => ?_) (fun h => ?_) | refine ret0 ?_)
  all_goals exact ret_b (by first | (simp_all [linkOk]; done) | (simp_all [linkOk]; omega)) rfl
def betw (x a b : Int) : Bool := decide (a ≤ x) && decide (x ≤ b)
theorem ref_between (x a b : Int) : FnOk Tryz.prog F.ref6_between [I x, I a, I b] [] 0 (Bo (betw x a b)) [] 0 := by
  refine fnOk tab mix G.ref6_between rfl rfl (by kernel_rfl) rfl rfl ?_
  (conv => whnf)
  repeat' ((conv => whnf); first | refine ask_m (fun h => ?_) (fun h => ?_) | refine ret0 ?_)
  all_goals exact ret_b (by first | (simp_all [betw]; done) | (simp_all [betw]; omega)) rfl
def inX (m x : Int) : Bool := decide (-m ≤ x) && decide (x ≤ m)
theorem ref_Near (v : Vec) (m : Int) (hm : 0 ≤ m) (hm2 : m ≤ 4611686018427387904) : FnOk Tryz.prog F.ref6_Near [Ve v, I m] [] 0 (Bo (inV v m)) [] 0 := by
  refine fnOk tab mix G.ref6_Near rfl rfl (by kernel_rfl) rfl rfl ?_
  (conv => whnf)
  have wn : IntKind.i64.wrap (0 - m) = -m := by rw [w64] <;> omega
  have e : inV v m = (inX m v.x && inX m v.y && inX m v.z) := rfl
  refine loop_intro (fun k : Nat => ⟨[(1, I m), (2, .one (.vptr 0 0)), (5, I k)], [(0, .vars Y.Vec [.dv (.int .i64 v.x), .dv (.int .i64 v.y), .dv (.int .i64 v.z)])], 1⟩) (fun k => k ≤ 3 ∧ (1 ≤ k → inX m v.x = true) ∧ (2 ≤ k → inX m v.y = true) ∧ (3 ≤ k → inX m v.z = true)) (fun k => 3 - k) [] 0 [] ⟨by decide, by omega, by omega, by omega⟩ ⟨⟨rfl, rfl, rfl, trivial⟩, ⟨rfl, trivial⟩⟩ ?_
  rintro k ⟨hk, k1, k2, k3⟩
  rcases (show k = 0 ∨ k = 1 ∨ k = 2 ∨ k = 3 by omega) with rfl | rfl | rfl | rfl
  · (conv => whnf)
    refine ⟨by decide, ?_⟩
    (conv => whnf)
    rw [wn]
    refine ask_m (fun h => ?_) (fun h => ?_)
    · have h := of_decide_eq_true h
      (conv => whnf)
      refine ret0 ?_
      exact ret_b (by rw [e]; simp [inX]; omega) rfl
    · have h := of_decide_eq_false h
      (conv => whnf)
      refine ⟨by decide, ?_⟩
      (conv => whnf)
      refine ask_m (fun h2 => ?_) (fun h2 => ?_)
      · have h2 := of_decide_eq_true h2
        (conv => whnf)
        refine ret0 ?_
        exact ret_b (by rw [e]; simp [inX]; omega) rfl
      · have h2 := of_decide_eq_false h2
        (conv => whnf)
        exact ⟨1, [], ⟨by decide, fun _ => by simp [inX]; omega, by omega, by omega⟩, by omega, ⟨⟨rfl, rfl, rfl, trivial⟩, ⟨rfl, trivial⟩⟩⟩
  · (conv => whnf)
    refine ⟨by decide, ?_⟩
    (conv => whnf)
    rw [wn]
    refine ask_m (fun h => ?_) (fun h => ?_)
    · have h := of_decide_eq_true h
      (conv => whnf)
      refine ret0 ?_
      exact ret_b (by rw [e]; simp [inX]; omega) rfl
    · have h := of_decide_eq_false h
      (conv => whnf)
      refine ⟨by decide, ?_⟩
      (conv => whnf)
      refine ask_m (fun h2 => ?_) (fun h2 => ?_)
      · have h2 := of_decide_eq_true h2
        (conv => whnf)
        refine ret0 ?_
        exact ret_b (by rw [e]; simp [inX]; omega) rfl
      · have h2 := of_decide_eq_false h2
        (conv => whnf)
        exact ⟨2, [], ⟨by decide, fun _ => k1 (by decide), fun _ => by simp [inX]; omega, by omega⟩, by omega, ⟨⟨rfl, rfl, rfl, trivial⟩, ⟨rfl, trivial⟩⟩⟩
  · (conv => whnf)
    refine ⟨by decide, ?_⟩
    (conv => whnf)
    rw [wn]
    refine ask_m (fun h => ?_) (fun h => ?_)
    · have h := of_decide_eq_true h
      (conv => whnf)
      refine ret0 ?_
      exact ret_b (by rw [e]; simp [inX]; omega) rfl
    · have h := of_decide_eq_false h
      (conv => whnf)
      refine ⟨by decide, ?_⟩
      (conv => whnf)
      refine ask_m (fun h2 => ?_) (fun h2 => ?_)
      · have h2 := of_decide_eq_true h2
        (conv => whnf)
        refine ret0 ?_
        exact ret_b (by rw [e]; simp [inX]; omega) rfl
      · have h2 := of_decide_eq_false h2
        (conv => whnf)
        exact ⟨3, [], ⟨by decide, fun _ => k1 (by decide), fun _ => k2 (by decide), fun _ => by simp [inX]; omega⟩, by omega, ⟨⟨rfl, rfl, rfl, trivial⟩, ⟨rfl, trivial⟩⟩⟩
  · (conv => whnf)
    refine ret0 ?_
    exact ret_b (by rw [e, k1 (by decide), k2 (by decide), k3 (by decide)]; rfl) rfl
def reachR (k : Int) : Int := if k = 0 then 0 else if k = 1 ∨ k = 2 ∨ k = 3 then 524288 else 4194304
theorem reachR_eq {k : Int} (h0 : 0 ≤ k) (h6 : k ≤ 6) : reachR k = reach k := by
  rcases (show k = 0 ∨ k = 1 ∨ k = 2 ∨ k = 3 ∨ k = 4 ∨ k = 5 ∨ k = 6 by omega) with rfl | rfl | rfl | rfl | rfl | rfl | rfl <;> decide
theorem ref_reach (k : Int) : FnOk Tryz.prog F.ref6_reach [I k] [] 0 (I (reachR k)) [] 0 := by
  refine fnOk tab mix G.ref6_reach rfl rfl (by kernel_rfl) rfl rfl ?_
  (conv => whnf)
  repeat' ((conv => whnf); first | refine ask_m (fun h => ?_) (fun h => ?_) | refine ret0 ?_)
  all_goals exact ret_i (by first | (simp_all [reachR]; done) | (simp_all [reachR]; omega)) rfl
theorem find_le : ∀ {js : List Joint} {k b : Nat} {x : Joint}, js[k]? = some x → (b : Int) ≤ find js x.name b ∧ find js x.name b ≤ ((b + k : Nat) : Int)
  | [], _, _, _, h => by simp at h
  | j :: js, 0, b, x, h => by
    simp at h; subst h
    rw [find, if_pos rfl]; omega
  | j :: js, k + 1, b, x, h => by
    rw [find]; split
    · omega
    · have := find_le (js := js) (k := k) (b := b + 1) (by simpa using h)
      omega
theorem ref_checkJoint (js : List Joint) (i : Nat) (j : Joint) (hj : js[i]? = some j) (hl : js.length ≤ 4611686018427387904) : FnOk Tryz.prog F.ref6_checkJoint [.one (.dv (dJs js)), I i] [] 0 (I (jointErr js i j)) [] 0 := by
  refine fnOk tab mix G.ref6_checkJoint rfl rfl (by kernel_rfl) rfl rfl ?_
  (conv => whnf)
  have hil : i < js.length := (List.getElem?_eq_some_iff.1 hj).1
  refine idx_and (by omega) (by simpa using hj) ?_
  (conv => whnf)
  refine call_i (ref_Name j.name) ?_
  (conv => whnf)
  refine ask_m (fun hn => ?_) (fun hn => ?_)
  · have hn : nameOk j.name = false := by simpa using hn
    (conv => whnf)
    refine ret0 ?_
    exact ret_i (by rw [jointErr, if_pos (.inl hn)]) rfl
  have hn : nameOk j.name = true := by simpa using hn
  (conv => whnf)
  refine loop_intro (fun k : Nat => ⟨[(0, .one (.dv (dJs js))), (1, I i), (5, .one (.vptr 0 0)), (6, I k)], [(0, .vars Y.Joint [.dv (.str j.name), .dv (.int .i64 j.kind), .dv (.int .i64 j.parent), .dv (.int .i64 j.off.x), .dv (.int .i64 j.off.y), .dv (.int .i64 j.off.z), .dv (.int .i64 j.lo), .dv (.int .i64 j.hi), .dv (.int .i64 j.weight), .dv (.int .i64 j.speed), .dv (.int .i64 j.accel), .dv (.int .i64 j.torque)])], 1⟩)
    (fun k => k ≤ i ∧ ∀ (a : Nat) (x : Joint), a < k → js[a]? = some x → x.name ≠ j.name) (fun k => i - k) [] 0 [] ⟨Nat.zero_le _, fun a x h => by omega⟩ ⟨⟨rfl, rfl, rfl, rfl, trivial⟩, ⟨rfl, trivial⟩⟩ ?_
  rintro k ⟨hk, hne⟩
  (conv => whnf)
  refine ask_m (fun h => ?_) (fun h => ?_)
  · have hlt : k < i := by have := of_decide_eq_true h; omega
    obtain ⟨x, hx⟩ : ∃ x, js[k]? = some x := ⟨_, List.getElem?_eq_getElem (by omega)⟩
    have hkk : IntKind.i64.wrap ((k : Int) + 1) = ((k + 1 : Nat) : Int) := by rw [w64] <;> omega
    (conv => whnf)
    refine idx_and (by omega) (by simpa using hx) ?_
    (conv => whnf)
    refine ask_m (fun he => ?_) (fun he => ?_)
    · have he : x.name = j.name := of_decide_eq_true he
      have hf := find_le (b := 0) hx
      rw [he] at hf
      (conv => whnf)
      refine ret0 ?_
      exact ret_i (by rw [jointErr, if_pos (.inr (by omega))]) rfl
    · have he : ¬ x.name = j.name := of_decide_eq_false he
      (conv => whnf)
      refine ⟨k + 1, [], ⟨hlt, fun a y ha hy => ?_⟩, by omega, ⟨⟨rfl, rfl, rfl, eqI hkk, trivial⟩, ⟨rfl, trivial⟩⟩⟩
      rcases Nat.lt_or_ge a k with h' | h'
      · exact hne a y h' hy
      · obtain rfl : a = k := by omega
        rw [hx] at hy; injection hy with hy; subst hy; exact he
  · have hki : k = i := by have := of_decide_eq_false h; omega
    subst hki
    have hf := find_at (k := 0) hj fun a x ha hx => hne a x ha hx
    have hE : jointErr js k j = if j.kind < 0 ∨ 6 < j.kind then 803
      else if j.parent < -1 ∨ (k : Int) ≤ j.parent then 804
      else if inV j.off 4194304 = false then 805
      else if j.hi < j.lo ∨ j.lo < - reach j.kind ∨ reach j.kind < j.hi then 806
      else if (from1 j.weight 1024 && from1 j.speed 1048576 && from1 j.accel 1048576 && from1 j.torque 1099511627776) = false then 807
      else 0 := by rw [jointErr, if_neg (by rw [hn, hf]; simp)]
    rw [hE]
    have hrr : ¬ (j.kind < 0 ∨ 6 < j.kind) → reachR j.kind = reach j.kind := fun h => reachR_eq (by omega) (by omega)
    have hrc := reach_cases j.kind
    have wr : IntKind.i64.wrap (0 - reach j.kind) = - reach j.kind := by rw [w64] <;> omega
    have fb : ∀ x m, betw x 1 m = from1 x m := fun _ _ => rfl
    clear h hE hne
    (conv => whnf)
    refine ask_m (fun h1 => ?_) (fun h1 => ?_)
    · have h1 := of_decide_eq_true h1
      rw [if_pos (.inl h1)]
      (conv => whnf)
      refine ret0 ?_
      exact ret_i rfl rfl
    have h1 := of_decide_eq_false h1
    (conv => whnf)
    refine ask_m (fun h2 => ?_) (fun h2 => ?_)
    · have h2 := of_decide_eq_true h2
      rw [if_pos (.inr h2)]
      (conv => whnf)
      refine ret0 ?_
      exact ret_i rfl rfl
    have h2 := of_decide_eq_false h2
    have h12 : ¬ (j.kind < 0 ∨ 6 < j.kind) := by omega
    rw [if_neg h12]
    (conv => whnf)
    refine ask_m (fun h3 => ?_) (fun h3 => ?_)
    · have h3 := of_decide_eq_true h3
      rw [if_pos (.inl h3)]
      (conv => whnf)
      refine ret0 ?_
      exact ret_i rfl rfl
    have h3 := of_decide_eq_false h3
    (conv => whnf)
    refine ask_m (fun h4 => ?_) (fun h4 => ?_)
    · have h4 := of_decide_eq_true h4
      rw [if_pos (.inr h4)]
      (conv => whnf)
      refine ret0 ?_
      exact ret_i rfl rfl
    have h4 := of_decide_eq_false h4
    rw [if_neg (by omega)]
    (conv => whnf)
    refine call_i (ref_Near j.off 4194304 (by decide) (by decide)) ?_
    (conv => whnf)
    refine ask_m (fun h5 => ?_) (fun h5 => ?_)
    · have h5 : inV j.off 4194304 = false := by simpa using h5
      rw [if_pos h5]
      (conv => whnf)
      refine ret0 ?_
      exact ret_i rfl rfl
    have h5 : inV j.off 4194304 = true := by simpa using h5
    rw [if_neg (by rw [h5]; simp)]
    (conv => whnf)
    refine call_i (ref_reach j.kind) ?_
    (conv => whnf)
    rw [hrr h12]
    refine ask_m (fun h6 => ?_) (fun h6 => ?_)
    · have h6 := of_decide_eq_true h6
      rw [if_pos (.inl h6)]
      (conv => whnf)
      refine ret0 ?_
      exact ret_i rfl rfl
    have h6 := of_decide_eq_false h6
    (conv => whnf)
    rw [wr]
    refine ask_m (fun h7 => ?_) (fun h7 => ?_)
    · have h7 := of_decide_eq_true h7
      rw [if_pos (.inr (.inl h7))]
      (conv => whnf)
      refine ret0 ?_
      exact ret_i rfl rfl
    have h7 := of_decide_eq_false h7
    (conv => whnf)
    refine ask_m (fun h8 => ?_) (fun h8 => ?_)
    · have h8 := of_decide_eq_true h8
      rw [if_pos (.inr (.inr h8))]
      (conv => whnf)
      refine ret0 ?_
      exact ret_i rfl rfl
    have h8 := of_decide_eq_false h8
    rw [if_neg (by omega)]
    (conv => whnf)
    refine call_i (ref_between j.weight 1 1024) ?_
    (conv => whnf)
    rw [fb]
    refine ask_m (fun h9 => ?_) (fun h9 => ?_)
    · have h9 : from1 j.weight 1024 = false := by simpa using h9
      rw [if_pos (by rw [h9]; simp)]
      (conv => whnf)
      refine ret0 ?_
      exact ret_i rfl rfl
    have h9 : from1 j.weight 1024 = true := by simpa using h9
    (conv => whnf)
    refine call_i (ref_between j.speed 1 1048576) ?_
    (conv => whnf)
    rw [fb]
    refine ask_m (fun h10 => ?_) (fun h10 => ?_)
    · have h10 : from1 j.speed 1048576 = false := by simpa using h10
      rw [if_pos (by rw [h10]; simp)]
      (conv => whnf)
      refine ret0 ?_
      exact ret_i rfl rfl
    have h10 : from1 j.speed 1048576 = true := by simpa using h10
    (conv => whnf)
    refine call_i (ref_between j.accel 1 1048576) ?_
    (conv => whnf)
    rw [fb]
    refine ask_m (fun h11 => ?_) (fun h11 => ?_)
    · have h11 : from1 j.accel 1048576 = false := by simpa using h11
      rw [if_pos (by rw [h11]; simp)]
      (conv => whnf)
      refine ret0 ?_
      exact ret_i rfl rfl
    have h11 : from1 j.accel 1048576 = true := by simpa using h11
    (conv => whnf)
    refine call_i (ref_between j.torque 1 1099511627776) ?_
    (conv => whnf)
    rw [fb]
    refine ask_m (fun h13 => ?_) (fun h13 => ?_)
    · have h13 : from1 j.torque 1099511627776 = false := by simpa using h13
      rw [if_pos (by rw [h13]; simp)]
      (conv => whnf)
      refine ret0 ?_
      exact ret_i rfl rfl
    have h13 : from1 j.torque 1099511627776 = true := by simpa using h13
    rw [h9, h10, h11, h13, if_neg (by simp)]
    (conv => whnf)
    refine ret0 ?_
    exact ret_i rfl rfl
end Go.Proofs.YtafglmjadbplcaaGreatDoor

/- The reference's checks: robots, scenes. -/
namespace Go.Proofs.YtafglmjadbplcaaGreatDoor
open Eng
set_option maxRecDepth 10000
attribute [local irreducible] FnOk loopW idxF retX arrF

theorem ref_CheckRobot (r : Robot) (hj : r.joints.length ≤ 4611686018427387904) (hm : r.masses.length ≤ 4611686018427387904) : FnOk Tryz.prog F.ref6_CheckRobot [Ro r] [] 0 (I (checkRobot r)) [] 0 := by
  refine fnOk tab mix G.ref6_CheckRobot rfl rfl (by kernel_rfl) rfl rfl ?_
  (conv => whnf)
  refine ask_m (fun h => ?_) (fun h => ?_)
  · have h : r.joints.length = 0 := by have := of_decide_eq_true h; simp only [List.length_map] at this; omega
    (conv => whnf)
    refine ret0 ?_
    exact ret_i (by unfold checkRobot; rw [if_pos (.inl h)]) rfl
  have h1 : ¬ r.joints.length = 0 := by have := of_decide_eq_false h; simp only [List.length_map] at this; omega
  (conv => whnf)
  refine ask_m (fun h => ?_) (fun h => ?_)
  · have h : 10 < r.joints.length := by have := of_decide_eq_true h; simp only [List.length_map] at this; omega
    (conv => whnf)
    refine ret0 ?_
    exact ret_i (by unfold checkRobot; rw [if_pos (.inr h)]) rfl
  have h2 : ¬ 10 < r.joints.length := by have := of_decide_eq_false h; simp only [List.length_map] at this; omega
  have e : checkRobot r = if jointsErr r.joints 0 r.joints ≠ 0 then jointsErr r.joints 0 r.joints
    else if 32 < r.masses.length ∨ r.masses.all (massOk r.joints.length) = false then 808 else 0 := by unfold checkRobot; rw [if_neg (by omega)]
  rw [e]
  (conv => whnf)
  refine loop_intro (fun k : Nat => ⟨[(1, .one (.vptr 0 0)), (3, I k)], [(0, bRo r)], 1⟩) (fun k => k ≤ r.joints.length ∧ jointsErr r.joints 0 r.joints = jointsErr r.joints k (r.joints.drop k)) (fun k => r.joints.length - k) [] 0 [] ⟨Nat.zero_le _, rfl⟩ ⟨⟨rfl, rfl, trivial⟩, ⟨rfl, trivial⟩⟩ ?_
  rintro k ⟨hk, hE⟩
  (conv => whnf)
  refine ask_m (fun h => ?_) (fun h => ?_)
  · have hlt : k < r.joints.length := by simp at h; omega
    obtain ⟨j, hj'⟩ : ∃ j, r.joints[k]? = some j := ⟨_, List.getElem?_eq_getElem hlt⟩
    have hkk : IntKind.i64.wrap ((k : Int) + 1) = ((k + 1 : Nat) : Int) := by rw [w64] <;> omega
    rw [drop_cons hj', jointsErr] at hE
    (conv => whnf)
    refine call_i (ref_checkJoint r.joints k j hj' hj) ?_
    (conv => whnf)
    refine ask_m (fun he => ?_) (fun he => ?_)
    · have he : ¬ jointErr r.joints k j = 0 := by simpa using he
      rw [if_neg he] at hE
      (conv => whnf)
      refine ret0 ?_
      exact ret_i (by rw [hE, if_pos he]) rfl
    · have he : jointErr r.joints k j = 0 := by simpa using he
      rw [if_pos he] at hE
      (conv => whnf)
      exact ⟨k + 1, [], ⟨hlt, hE⟩, by omega, ⟨⟨rfl, eqI hkk, trivial⟩, ⟨rfl, trivial⟩⟩⟩
  · have hk : k = r.joints.length := by simp at h; omega
    subst hk
    rw [List.drop_length, jointsErr] at hE
    rw [hE, if_neg (by simp)]
    (conv => whnf)
    refine ask_m (fun h3 => ?_) (fun h3 => ?_)
    · have h3 : 32 < r.masses.length := by have := of_decide_eq_true h3; simp only [List.length_map] at this; omega
      rw [if_pos (.inl h3)]
      (conv => whnf)
      refine ret0 ?_
      exact ret_i rfl rfl
    have h3 : ¬ 32 < r.masses.length := by have := of_decide_eq_false h3; simp only [List.length_map] at this; omega
    (conv => whnf)
    refine loop_intro (fun k : Nat => ⟨[(1, .one (.vptr 0 0)), (5, I k)], [(0, bRo r)], 1⟩) (fun k => k ≤ r.masses.length ∧ (r.masses.take k).all (massOk r.joints.length) = true) (fun k => r.masses.length - k) [] 0 [] ⟨Nat.zero_le _, rfl⟩ ⟨⟨rfl, rfl, trivial⟩, ⟨rfl, trivial⟩⟩ ?_
    rintro k ⟨hk, hall⟩
    (conv => whnf)
    refine ask_m (fun h4 => ?_) (fun h4 => ?_)
    · have hlt : k < r.masses.length := by simp at h4; omega
      obtain ⟨m, hm'⟩ : ∃ j, r.masses[k]? = some j := ⟨_, List.getElem?_eq_getElem hlt⟩
      have hkk : IntKind.i64.wrap ((k : Int) + 1) = ((k + 1 : Nat) : Int) := by rw [w64] <;> omega
      have bad : massOk r.joints.length m = false → (if 32 < r.masses.length ∨ r.masses.all (massOk r.joints.length) = false then (808 : Int) else 0) = 808 := fun h => by rw [if_pos (.inr (all_not hm' h))]
      have hM : massOk r.joints.length m = (decide (0 ≤ m.link) && decide (m.link < r.joints.length) && betw m.mass 1 65536 && inV m.point 4194304) := rfl
      (conv => whnf)
      refine idx_and (by omega) (by simpa using hm') ?_
      (conv => whnf)
      refine ask_m (fun a1 => ?_) (fun a1 => ?_)
      · have a1 := of_decide_eq_true a1
        rw [bad (by rw [hM, decide_eq_false (by omega)]; simp)]
        (conv => whnf)
        refine ret0 ?_
        exact ret_i rfl rfl
      have a1 := of_decide_eq_false a1
      (conv => whnf)
      rw [List.length_map]
      refine ask_m (fun a2 => ?_) (fun a2 => ?_)
      · have a2 := of_decide_eq_true a2
        rw [bad (by rw [hM, decide_eq_false (p := m.link < _) (by omega)]; simp)]
        (conv => whnf)
        refine ret0 ?_
        exact ret_i rfl rfl
      have a2 := of_decide_eq_false a2
      (conv => whnf)
      refine call_i (ref_between m.mass 1 65536) ?_
      (conv => whnf)
      refine ask_m (fun a3 => ?_) (fun a3 => ?_)
      · have a3 : betw m.mass 1 65536 = false := by simpa using a3
        rw [bad (by rw [hM, a3]; simp)]
        (conv => whnf)
        refine ret0 ?_
        exact ret_i rfl rfl
      have a3 : betw m.mass 1 65536 = true := by simpa using a3
      (conv => whnf)
      refine call_i (ref_Near m.point 4194304 (by decide) (by decide)) ?_
      (conv => whnf)
      refine ask_m (fun a4 => ?_) (fun a4 => ?_)
      · have a4 : inV m.point 4194304 = false := by simpa using a4
        rw [bad (by rw [hM, a4]; simp)]
        (conv => whnf)
        refine ret0 ?_
        exact ret_i rfl rfl
      have a4 : inV m.point 4194304 = true := by simpa using a4
      (conv => whnf)
      exact ⟨k + 1, [], ⟨hlt, all_take hall hm' (by rw [hM, a3, a4, decide_eq_true (by omega), decide_eq_true (p := m.link < _) (by omega)]; rfl)⟩, by omega, ⟨⟨rfl, eqI hkk, trivial⟩, ⟨rfl, trivial⟩⟩⟩
    · have hk : k = r.masses.length := by simp at h4; omega
      subst hk
      rw [List.take_length] at hall
      rw [hall, if_neg (by simp; omega)]
      (conv => whnf)
      refine ret0 ?_
      exact ret_i rfl rfl
theorem ref_CheckScene (s : Scene) (hs : small s) : FnOk Tryz.prog F.ref6_CheckScene [Sc s] [] 0 (I (checkScene s)) [] 0 := by
  refine fnOk tab mix G.ref6_CheckScene rfl rfl (by kernel_rfl) rfl rfl ?_
  (conv => whnf)
  obtain ⟨s1, s2, s3, s4, s5⟩ := hs
  refine call_i (ref_CheckRobot s.robot s1 s2) ?_
  (conv => whnf)
  refine ask_m (fun h => ?_) (fun h => ?_)
  · have h : ¬ checkRobot s.robot = 0 := by simpa using h
    (conv => whnf)
    refine ret0 ?_
    exact ret_i (by unfold checkScene; rw [if_pos h]) rfl
  have h0 : checkRobot s.robot = 0 := by simpa using h
  have e : checkScene s = if 24 < s.shapes.length then 901
    else if shapesErr s.robot.joints.length s.shapes ≠ 0 then shapesErr s.robot.joints.length s.shapes
    else if 64 < s.skips.length then 903
    else if (s.skips.all (skipOk s.robot.joints.length)) = false then 903
    else 0 := by unfold checkScene; rw [if_neg (by rw [h0]; simp)]; rfl
  rw [e]
  clear e
  (conv => whnf)
  refine ask_m (fun h1 => ?_) (fun h1 => ?_)
  · have h1 : 24 < s.shapes.length := by have := of_decide_eq_true h1; simp only [List.length_map] at this; omega
    rw [if_pos h1]
    (conv => whnf)
    refine ret0 ?_
    exact ret_i rfl rfl
  have h1 : ¬ 24 < s.shapes.length := by have := of_decide_eq_false h1; simp only [List.length_map] at this; omega
  rw [if_neg h1]
  (conv => whnf)
  refine loop_intro (fun k : Nat => ⟨[(1, .one (.vptr 0 0)), (4, I k)], [(0, bSc s)], 1⟩) (fun k => k ≤ s.shapes.length ∧ shapesErr s.robot.joints.length s.shapes = shapesErr s.robot.joints.length (s.shapes.drop k)) (fun k => s.shapes.length - k) [] 0 [] ⟨Nat.zero_le _, rfl⟩ ⟨⟨rfl, rfl, trivial⟩, ⟨rfl, trivial⟩⟩ ?_
  rintro k ⟨hk, hE⟩
  (conv => whnf)
  refine ask_m (fun h2 => ?_) (fun h2 => ?_)
  · have hlt : k < s.shapes.length := by simp at h2; omega
    obtain ⟨x, hx⟩ : ∃ j, s.shapes[k]? = some j := ⟨_, List.getElem?_eq_getElem hlt⟩
    have hkk : IntKind.i64.wrap ((k : Int) + 1) = ((k + 1 : Nat) : Int) := by rw [w64] <;> omega
    have hxp := s5 x (List.mem_of_getElem? hx)
    rw [drop_cons hx, shapesErr] at hE
    have e1 : (linkOk s.robot.joints.length x.link = false ∨ x.radius < 1 ∨ 1048576 < x.radius ∨ x.points.length < 1 ∨ 8 < x.points.length) → shapesErr s.robot.joints.length s.shapes = 902 := fun h => by
      have : shapeErr s.robot.joints.length x = 902 := by rw [shapeErr, if_pos h]
      rw [hE, this, if_neg (by decide)]
    have e2 : ¬ (linkOk s.robot.joints.length x.link = false ∨ x.radius < 1 ∨ 1048576 < x.radius ∨ x.points.length < 1 ∨ 8 < x.points.length) → x.points.all (inV · 4194304) = false → shapesErr s.robot.joints.length s.shapes = 805 := fun h h' => by
      have : shapeErr s.robot.joints.length x = 805 := by rw [shapeErr, if_neg h, if_pos h']
      rw [hE, this, if_neg (by decide)]
    have e3 : ¬ (linkOk s.robot.joints.length x.link = false ∨ x.radius < 1 ∨ 1048576 < x.radius ∨ x.points.length < 1 ∨ 8 < x.points.length) → x.points.all (inV · 4194304) = true → shapesErr s.robot.joints.length s.shapes = shapesErr s.robot.joints.length (s.shapes.drop (k + 1)) := fun h h' => by
      have : shapeErr s.robot.joints.length x = 0 := by rw [shapeErr, if_neg h, if_neg (by rw [h']; simp)]
      rw [hE, this, if_pos rfl]
    (conv => whnf)
    refine idx_and (by omega) (by simpa using hx) ?_
    (conv => whnf)
    refine call_i (ref_isLink s.robot x.link) ?_
    (conv => whnf)
    refine ask_m (fun a1 => ?_) (fun a1 => ?_)
    · have a1 : linkOk s.robot.joints.length x.link = false := by simpa using a1
      rw [e1 (.inl a1), if_pos (by decide)]
      (conv => whnf)
      refine ret0 ?_
      exact ret_i rfl rfl
    have a1 : linkOk s.robot.joints.length x.link = true := by simpa using a1
    (conv => whnf)
    refine call_i (ref_between x.radius 1 1048576) ?_
    (conv => whnf)
    refine ask_m (fun a2 => ?_) (fun a2 => ?_)
    · have a2 : betw x.radius 1 1048576 = false := by simpa using a2
      rw [e1 (by simp [betw] at a2; omega), if_pos (by decide)]
      (conv => whnf)
      refine ret0 ?_
      exact ret_i rfl rfl
    have a2 : betw x.radius 1 1048576 = true := by simpa using a2
    simp [betw] at a2
    (conv => whnf)
    refine ask_m (fun a3 => ?_) (fun a3 => ?_)
    · have a3 : x.points.length < 1 := by have := of_decide_eq_true a3; simp only [List.length_map] at this; omega
      rw [e1 (by omega), if_pos (by decide)]
      (conv => whnf)
      refine ret0 ?_
      exact ret_i rfl rfl
    have a3 : ¬ x.points.length < 1 := by have := of_decide_eq_false a3; simp only [List.length_map] at this; omega
    (conv => whnf)
    refine ask_m (fun a4 => ?_) (fun a4 => ?_)
    · have a4 : 8 < x.points.length := by have := of_decide_eq_true a4; simp only [List.length_map] at this; omega
      rw [e1 (by omega), if_pos (by decide)]
      (conv => whnf)
      refine ret0 ?_
      exact ret_i rfl rfl
    have a4 : ¬ 8 < x.points.length := by have := of_decide_eq_false a4; simp only [List.length_map] at this; omega
    have hno : ¬ (linkOk s.robot.joints.length x.link = false ∨ x.radius < 1 ∨ 1048576 < x.radius ∨ x.points.length < 1 ∨ 8 < x.points.length) := by rw [a1]; rintro (h | h | h | h | h) <;> first | contradiction | omega
    (conv => whnf)
    refine loop_intro (fun c : Nat => ⟨[(1, .one (.vptr 0 0)), (4, I k), (5, .one (.vptr 1 0)), (6, I c)], [(0, bSc s), (1, .vars Y.Shape [.dv (.int .i64 x.link), .dv (.int .i64 x.radius), .dv (dVs x.points)])], 2⟩) (fun c => c ≤ x.points.length ∧ (x.points.take c).all (inV · 4194304) = true) (fun c => x.points.length - c) [] 0 [] ⟨Nat.zero_le _, rfl⟩ ⟨⟨rfl, rfl, rfl, rfl, trivial⟩, ⟨rfl, rfl, trivial⟩⟩ ?_
    rintro c ⟨hc, hall⟩
    (conv => whnf)
    refine ask_m (fun a5 => ?_) (fun a5 => ?_)
    · have hcl : c < x.points.length := by simp at a5; omega
      obtain ⟨p, hp⟩ : ∃ j, x.points[c]? = some j := ⟨_, List.getElem?_eq_getElem hcl⟩
      have hcc : IntKind.i64.wrap ((c : Int) + 1) = ((c + 1 : Nat) : Int) := by rw [w64] <;> omega
      (conv => whnf)
      refine idx_and (by omega) (by simpa using hp) ?_
      (conv => whnf)
      refine call_i (ref_Near p 4194304 (by decide) (by decide)) ?_
      (conv => whnf)
      refine ask_m (fun a6 => ?_) (fun a6 => ?_)
      · have a6 : inV p 4194304 = false := by simpa using a6
        rw [e2 hno (all_not hp a6), if_pos (by decide)]
        (conv => whnf)
        refine ret0 ?_
        exact ret_i rfl rfl
      · have a6 : inV p 4194304 = true := by simpa using a6
        (conv => whnf)
        exact ⟨c + 1, [], ⟨hcl, all_take hall hp a6⟩, by omega, ⟨⟨rfl, rfl, rfl, eqI hcc, trivial⟩, ⟨rfl, rfl, trivial⟩⟩⟩
    · have hc : c = x.points.length := by simp at a5; omega
      subst hc
      rw [List.take_length] at hall
      (conv => whnf)
      exact ⟨k + 1, [], ⟨hlt, e3 hno hall⟩, by omega, ⟨⟨rfl, eqI hkk, trivial⟩, ⟨rfl, trivial⟩⟩⟩
  · have hk : k = s.shapes.length := by simp at h2; omega
    subst hk
    rw [List.drop_length, shapesErr] at hE
    rw [hE, if_neg (by simp)]
    (conv => whnf)
    refine ask_m (fun h3 => ?_) (fun h3 => ?_)
    · have h3 : 64 < s.skips.length := by have := of_decide_eq_true h3; simp only [List.length_map] at this; omega
      rw [if_pos h3]
      (conv => whnf)
      refine ret0 ?_
      exact ret_i rfl rfl
    have h3 : ¬ 64 < s.skips.length := by have := of_decide_eq_false h3; simp only [List.length_map] at this; omega
    rw [if_neg h3]
    (conv => whnf)
    refine loop_intro (fun k : Nat => ⟨[(1, .one (.vptr 0 0)), (7, I k)], [(0, bSc s)], 1⟩) (fun k => k ≤ s.skips.length ∧ (s.skips.take k).all (skipOk s.robot.joints.length) = true) (fun k => s.skips.length - k) [] 0 [] ⟨Nat.zero_le _, rfl⟩ ⟨⟨rfl, rfl, trivial⟩, ⟨rfl, trivial⟩⟩ ?_
    rintro k ⟨hk, hall⟩
    (conv => whnf)
    refine ask_m (fun h4 => ?_) (fun h4 => ?_)
    · have hlt : k < s.skips.length := by simp at h4; omega
      obtain ⟨m, hm'⟩ : ∃ j, s.skips[k]? = some j := ⟨_, List.getElem?_eq_getElem hlt⟩
      have hkk : IntKind.i64.wrap ((k : Int) + 1) = ((k + 1 : Nat) : Int) := by rw [w64] <;> omega
      (conv => whnf)
      refine idx_and (by omega) (by simpa using hm') ?_
      (conv => whnf)
      refine call_i (ref_isLink s.robot m.a) ?_
      (conv => whnf)
      refine ask_m (fun a1 => ?_) (fun a1 => ?_)
      · have a1 : linkOk s.robot.joints.length m.a = false := by simpa using a1
        rw [if_pos (all_not hm' (by simp [skipOk, a1]))]
        (conv => whnf)
        refine ret0 ?_
        exact ret_i rfl rfl
      have a1 : linkOk s.robot.joints.length m.a = true := by simpa using a1
      (conv => whnf)
      refine idx_and (by omega) (by simpa using hm') ?_
      (conv => whnf)
      refine call_i (ref_isLink s.robot m.b) ?_
      (conv => whnf)
      refine ask_m (fun a2 => ?_) (fun a2 => ?_)
      · have a2 : linkOk s.robot.joints.length m.b = false := by simpa using a2
        rw [if_pos (all_not hm' (by simp [skipOk, a2]))]
        (conv => whnf)
        refine ret0 ?_
        exact ret_i rfl rfl
      · have a2 : linkOk s.robot.joints.length m.b = true := by simpa using a2
        (conv => whnf)
        exact ⟨k + 1, [], ⟨hlt, all_take hall hm' (by simp [skipOk, a1, a2])⟩, by omega, ⟨⟨rfl, eqI hkk, trivial⟩, ⟨rfl, trivial⟩⟩⟩
    · have hk : k = s.skips.length := by simp at h4; omega
      subst hk
      rw [List.take_length] at hall
      rw [hall, if_neg (by simp)]
      (conv => whnf)
      refine ret0 ?_
      exact ret_i rfl rfl
end Go.Proofs.YtafglmjadbplcaaGreatDoor

/- What valid robots and scenes are; rows. No program in sight. -/
namespace Go.Proofs.YtafglmjadbplcaaGreatDoor
open Eng
set_option maxRecDepth 10000

theorem jat {js : List Joint} : ∀ {l : List Joint} {i k : Nat} {j : Joint}, jointsErr js i l = 0 → l[k]? = some j → jointErr js (i + k) j = 0
  | [], _, _, _, _, h => by simp at h
  | x :: l, i, k, j, h, hj => by
    rw [jointsErr] at h
    split at h
    · rename_i h0
      cases k with
      | zero => simp at hj; subst hj; exact h0
      | succ k =>
        have := jat (k := k) h (by simpa using hj)
        rw [← this]; congr 1; omega
    · contradiction
theorem robot_facts {r : Robot} (h : checkRobot r = 0) : r.joints.length ≤ 10 ∧ (∀ (k : Nat) (j : Joint), r.joints[k]? = some j → nameOk j.name = true ∧ bodyOk k j) ∧ r.masses.length ≤ 32 ∧ ∀ m ∈ r.masses, massOk r.joints.length m = true := by
  unfold checkRobot at h
  split at h
  · contradiction
  split at h
  · contradiction
  split at h
  · contradiction
  rename_i h1 h2 h3
  simp only [ne_eq, Decidable.not_not] at h2
  have h4 : r.masses.length ≤ 32 ∧ r.masses.all (massOk r.joints.length) = true := ⟨by omega, by
    cases hm : r.masses.all (massOk r.joints.length) with
    | true => rfl
    | false => exact absurd (.inr hm) h3⟩
  refine ⟨by omega, fun k j hj => ?_, h4.1, fun m hm => List.all_eq_true.1 h4.2 m hm⟩
  have := jat h2 hj
  rw [Nat.zero_add] at this
  obtain ⟨a, _, b⟩ := jointErr_inv this
  exact ⟨a, b⟩
theorem flat_take {α β : Type} (f : α → List β) {l : List α} {k : Nat} {x : α} (h : l[k]? = some x) : (l.take (k + 1)).flatMap f = (l.take k).flatMap f ++ f x := by
  rw [List.take_add_one, h, List.flatMap_append]; simp
theorem map_take1 {α β : Type} (f : α → β) {l : List α} {k : Nat} {x : α} (h : l[k]? = some x) : (l.take (k + 1)).map f = (l.take k).map f ++ [f x] := by
  rw [List.take_add_one, h, List.map_append]; rfl
theorem from1_bd {x m : Int} (h : from1 x m = true) : 1 ≤ x ∧ x ≤ m := by simpa [from1] using h
theorem rows_eq {t sz : Nat} {a b : List (List DV)} (h : a = b) : Box.rows t sz a = Box.rows t sz b := by rw [h]
theorem scene_facts {s : Scene} (h : checkScene s = 0) : checkRobot s.robot = 0 ∧ s.shapes.length ≤ 24 ∧ (∀ x ∈ s.shapes, linkOk s.robot.joints.length x.link = true ∧ 1 ≤ x.points.length ∧ x.points.length ≤ 8 ∧ (1 ≤ x.radius ∧ x.radius ≤ 1048576) ∧ ∀ p ∈ x.points, inV p 4194304 = true) ∧ s.skips.length ≤ 64 ∧ ∀ k ∈ s.skips, linkOk s.robot.joints.length k.a = true ∧ linkOk s.robot.joints.length k.b = true := by
  unfold checkScene at h
  split at h
  · contradiction
  split at h
  · contradiction
  split at h
  · contradiction
  split at h
  · contradiction
  split at h
  · contradiction
  rename_i h1 h2 h3 h4 h5
  simp only [ne_eq, Decidable.not_not] at h1 h3
  refine ⟨h1, by omega, fun x hx => ?_, by omega, fun k hk => ?_⟩
  · have : ∀ (l : List Shape), shapesErr s.robot.joints.length l = 0 → ∀ x ∈ l, shapeErr s.robot.joints.length x = 0 := by
      intro l
      induction l with
      | nil => intro _ x hx; cases hx
      | cons y l ih =>
        intro he x hx
        rw [shapesErr] at he
        split at he
        · rename_i h0
          rcases List.mem_cons.1 hx with rfl | hx
          · exact h0
          · exact ih he x hx
        · contradiction
    have hx := this s.shapes h3 x hx
    unfold shapeErr at hx
    split at hx
    · contradiction
    split at hx
    · contradiction
    rename_i q1 q2
    refine ⟨?_, by omega, by omega, by omega, fun p hp => ?_⟩
    · cases hl : linkOk s.robot.joints.length x.link with
      | true => rfl
      | false => exact absurd (.inl hl) q1
    · cases hq : x.points.all (inV · 4194304) with
      | true => exact List.all_eq_true.1 hq p hp
      | false => exact absurd hq q2
  · cases hq : s.skips.all fun k => linkOk s.robot.joints.length k.a && linkOk s.robot.joints.length k.b with
    | true => simpa using List.all_eq_true.1 hq k hk
    | false => exact absurd hq h5
theorem link_bd {n : Nat} {k : Int} (h : linkOk n k = true) : -1 ≤ k ∧ k < n := by simpa [linkOk] using h
end Go.Proofs.YtafglmjadbplcaaGreatDoor

/- The reference's WriteRobot and WriteScene. -/
namespace Go.Proofs.YtafglmjadbplcaaGreatDoor
open Eng
set_option maxRecDepth 10000
attribute [local irreducible] FnOk loopW idxF retX arrF

def jB (js : List Joint) (j : Joint) : List (ByteArray × List ByteArray) := [(wJoint, [j.name, kindN j.kind, linkN js j.parent, fmtT j.off.x, fmtT j.off.y, fmtT j.off.z, fmtT j.lo, fmtT j.hi, decT j.weight.toNat 1]), (wLimit, [j.name, decT j.speed.toNat 1, decT j.accel.toNat 1, decT j.torque.toNat 1])]
def mB (js : List Joint) (m : Mass) : ByteArray × List ByteArray := (wMass, [linkN js m.link, fmtT m.mass, fmtT m.point.x, fmtT m.point.y, fmtT m.point.z])
def ptB (p : Vec) : List ByteArray := [fmtT p.x, fmtT p.y, fmtT p.z]
def shB (js : List Joint) (x : Shape) : ByteArray × List ByteArray := (wShape, linkN js x.link :: fmtT x.radius :: x.points.flatMap ptB)
def skB (js : List Joint) (k : Skip) : ByteArray × List ByteArray := (wSkip, [linkN js k.a, linkN js k.b])
def robB (r : Robot) : List (ByteArray × List ByteArray) := r.joints.flatMap (jB r.joints) ++ r.masses.map (mB r.joints)
def scB (s : Scene) : List (ByteArray × List ByteArray) := (robB s.robot ++ s.shapes.map (shB s.robot.joints)) ++ s.skips.map (skB s.robot.joints)
def writeRobot (r : Robot) : List Stmt := if checkRobot r = 0 then numb 0 (robB r) else []
def writeScene (s : Scene) : List Stmt := if checkScene s = 0 then numb 0 (scB s) else []
theorem jB_len (js l : List Joint) : (l.flatMap (jB js)).length = 2 * l.length := by
  induction l with
  | nil => rfl
  | cons j l ih => rw [List.flatMap_cons, List.length_append, ih, List.length_cons]; show 2 + _ = _; omega
theorem robB_len (r : Robot) : (robB r).length = 2 * r.joints.length + r.masses.length := by rw [robB, List.length_append, jB_len, List.length_map]
end Go.Proofs.YtafglmjadbplcaaGreatDoor

/- The makers: letters, joints. -/
namespace Go.Proofs.YtafglmjadbplcaaGreatDoor
open Eng
set_option maxRecDepth 10000
attribute [local irreducible] FnOk loopW idxF retX arrF

def letter (k : Nat) : ByteArray := ⟨#[(97 + k).toUInt8]⟩
theorem letter_cut (k : Nat) (hk : k < 10) : (ByteArray.mk #[97, 98, 99, 100, 101, 102, 103, 104, 105, 106]).extract k (k + 1) = letter k := by
  have h : ∀ k, k < 10 → (ByteArray.mk #[97, 98, 99, 100, 101, 102, 103, 104, 105, 106]).extract k (k + 1) = letter k := by decide
  exact h k hk
theorem mk_letter (k : Nat) (hk : k < 10) : FnOk Tryz.prog F.mk_letter [I k] [] 0 (Tx (letter k)) [] 0 := by
  refine fnOk tab mix G.mk_letter rfl rfl (by kernel_rfl) rfl rfl ?_
  (conv => whnf)
  have hkk : IntKind.i64.wrap ((k : Int) + 1) = ((k + 1 : Nat) : Int) := by rw [w64] <;> omega
  rw [hkk]
  refine ⟨⟨by omega, by omega, by show _ ≤ (10 : Int); omega⟩, ?_⟩
  (conv => whnf)
  refine ret0 ?_
  rw [Int.toNat_natCast, Int.toNat_natCast]
  exact ret_dv (congrArg DV.str (letter_cut k hk)) rfl
def kindOf (n : Int) : Int := [3, 3, 1, 2, 4, 5, 3, 0].getD n.toNat 0
def jParent (l : List Int) (p i : Nat) : Int := if nxt l (p + 3) 4 = 1 then -1 else (i : Int) - 1
def jOff (l : List Int) (p i : Nat) : Vec := if 0 < i then ⟨131072, (nxt l (p + 4) 5 - 2) * 32768, (nxt l (p + 5) 3 - 1) * 32768⟩ else ⟨0, 0, 0⟩
def jAt (p i : Nat) : Nat := if 0 < i then p + 6 else p + 4
def jSpan (l : List Int) (q : Nat) (kd : Int) : Int × Int × Nat :=
  if kd = 0 then (0, 0, q)
  else if kd = 4 ∨ kd = 5 then ((0 - nxt l q 3) * 65536, nxt l (q + 1) 4 * 32768, q + 2)
  else ((0 - nxt l q 5) * 8192, (1 + nxt l (q + 1) 4) * 8192 + nxt l (q + 2) 3, q + 3)
def jKind (l : List Int) (p : Nat) : Int := kindOf (nxt l (p + 2) 8)
def mkJoint (l : List Int) (p i : Nat) : Joint :=
  ⟨letter i, jKind l p, jParent l p i, jOff l p i, (jSpan l (jAt p i) (jKind l p)).1, (jSpan l (jAt p i) (jKind l p)).2.1, 1 + nxt l p 4, 65536, 65536 + nxt l (p + 1) 3, 327680⟩
def mkJointAt (l : List Int) (p i : Nat) : Nat := (jSpan l (jAt p i) (jKind l p)).2.2
theorem kind_at {n : Int} (h0 : 0 ≤ n) (h8 : n < 8) : [CV.dv (.int .i64 3), .dv (.int .i64 3), .dv (.int .i64 1), .dv (.int .i64 2), .dv (.int .i64 4), .dv (.int .i64 5), .dv (.int .i64 3), .dv (.int .i64 0)][n.toNat]? = some (.dv (.int .i64 (kindOf n))) := by
  obtain ⟨k, rfl⟩ : ∃ k : Nat, n = k := ⟨n.toNat, by omega⟩
  rw [kindOf, Int.toNat_natCast]
  match k, h8 with
  | 0, _ | 1, _ | 2, _ | 3, _ | 4, _ | 5, _ | 6, _ | 7, _ => rfl
  | k + 8, h => omega
abbrev Jo (j : Joint) : SV := .agg [.dv (.str j.name), .dv (.int .i64 j.kind), .dv (.int .i64 j.parent), .dv (.int .i64 j.off.x), .dv (.int .i64 j.off.y), .dv (.int .i64 j.off.z), .dv (.int .i64 j.lo), .dv (.int .i64 j.hi), .dv (.int .i64 j.weight), .dv (.int .i64 j.speed), .dv (.int .i64 j.accel), .dv (.int .i64 j.torque)]
theorem w_lo {a : Int} (h0 : 0 ≤ a) (h1 : a < 5) : IntKind.i64.wrap ((IntKind.i64.wrap (IntKind.i64.wrap (0 - a) * 65536)).tdiv 8) = (0 - a) * 8192 := by
  rw [w64 (x := 0 - a) (by omega) (by omega), w64 (x := (0 - a) * 65536) (by omega) (by omega), show (0 - a) * 65536 = ((0 - a) * 8192) * 8 by omega, Int.mul_tdiv_cancel _ (by decide), w64] <;> omega
theorem w_hi {a b : Int} (h0 : 0 ≤ a) (h1 : a < 4) (h2 : 0 ≤ b) (h3 : b < 3) : IntKind.i64.wrap (IntKind.i64.wrap ((IntKind.i64.wrap (IntKind.i64.wrap (1 + a) * 65536)).tdiv 8) + b) = (1 + a) * 8192 + b := by
  rw [w64 (x := 1 + a) (by omega) (by omega), w64 (x := (1 + a) * 65536) (by omega) (by omega), show (1 + a) * 65536 = ((1 + a) * 8192) * 8 by omega, Int.mul_tdiv_cancel _ (by decide), w64 (x := (1 + a) * 8192) (by omega) (by omega), w64] <;> omega
theorem mk_joint (l : List Int) (p i : Nat) (hl : l.length ≤ 4611686018427387904) (hi : i < 10) : FnOk Tryz.prog F.mk_joint [.one (.vptr 0 0), I i] [(0, SrcJ l p)] 1 (Jo (mkJoint l p i)) [(0, SrcJ l (mkJointAt l p i))] 1 := by
  refine fnOk tab mix G.mk_joint rfl rfl (by kernel_rfl) rfl rfl ?_
  (conv => whnf)
  refine call_i (mk_letter i hi) ?_
  (conv => whnf)
  refine call_i (mk_Next l p 4 (by omega) (by omega) hl) ?_
  (conv => whnf)
  refine call_i (mk_Next l (p + 1) 3 (by omega) (by omega) hl) ?_
  (conv => whnf)
  refine call_i (mk_Next l (p + 2) 8 (by omega) (by omega) hl) ?_
  (conv => whnf)
  have n0 := nxt_bd (l := l) (j := p) (m := 4) (by omega)
  have n1 := nxt_bd (l := l) (j := p + 1) (m := 3) (by omega)
  have n2 := nxt_bd (l := l) (j := p + 2) (m := 8) (by omega)
  refine ⟨⟨n2.1, by simpa using n2.2⟩, ?_⟩
  have hkd := kind_at n2.1 n2.2
  rw [show kindOf (nxt l (p + 2) 8) = jKind l p from rfl] at hkd
  refine arr_at rfl rfl hkd ?_
  clear hkd
  (conv => whnf)
  refine call_i (mk_Next l (p + 3) 4 (by omega) (by omega) hl) ?_
  (conv => whnf)
  have w0 : IntKind.i64.wrap (1 + nxt l p 4) = 1 + nxt l p 4 := by rw [w64] <;> omega
  have w1 : IntKind.i64.wrap (65536 + nxt l (p + 1) 3) = 65536 + nxt l (p + 1) 3 := by rw [w64] <;> omega
  have wi : IntKind.i64.wrap ((i : Int) - 1) = (i : Int) - 1 := by rw [w64] <;> omega
  rw [w0, w1, wi]
  have hJ : mkJoint l p i = ⟨letter i, jKind l p, jParent l p i, jOff l p i, (jSpan l (jAt p i) (jKind l p)).1, (jSpan l (jAt p i) (jKind l p)).2.1, 1 + nxt l p 4, 65536, 65536 + nxt l (p + 1) 3, 327680⟩ := rfl
  rw [hJ, mkJointAt]
  generalize jKind l p = kd
  refine ask_m (fun h => ?_) (fun h => ?_)
  · have hp : jParent l p i = -1 := by unfold jParent; rw [if_pos (by simpa using h)]
    rw [hp]
    (conv => whnf)
    refine ask_m (fun h => ?_) (fun h => ?_)
    · have h : 0 < i := by have := of_decide_eq_true h; omega
      have ho : jOff l p i = ⟨131072, (nxt l (p + 4) 5 - 2) * 32768, (nxt l (p + 5) 3 - 1) * 32768⟩ := by unfold jOff; rw [if_pos h]
      have hq : jAt p i = p + 6 := by unfold jAt; rw [if_pos h]
      rw [ho, hq]
      (conv => whnf)
      refine call_i (mk_Signed l (p + 4) 2 5 (by omega) (by omega) (by omega) hl) ?_
      (conv => whnf)
      refine call_i (mk_Signed l (p + 5) 1 3 (by omega) (by omega) (by omega) hl) ?_
      (conv => whnf)
      have s4 := nxt_bd (l := l) (j := p + 4) (m := 5) (by omega)
      have s5 := nxt_bd (l := l) (j := p + 5) (m := 3) (by omega)
      rw [show IntKind.i64.wrap ((nxt l (p + 4) 5 - 2) * 32768) = (nxt l (p + 4) 5 - 2) * 32768 by rw [w64] <;> omega, show IntKind.i64.wrap ((nxt l (p + 5) 3 - 1) * 32768) = (nxt l (p + 5) 3 - 1) * 32768 by rw [w64] <;> omega]
      refine ask_m (fun h => ?_) (fun h => ?_)
      · have e : jSpan l (p + 6) kd = (0, 0, p + 6) := by unfold jSpan; rw [if_pos (by simpa using h)]
        rw [e]
        (conv => whnf)
        refine ret0 ?_
        exact ⟨[], ⟨rfl, trivial⟩, ⟨rfl, trivial⟩⟩
      have k0 : ¬ kd = 0 := by simpa using h
      (conv => whnf)
      refine ask_m (fun h => ?_) (fun h => ?_)
      · have e : jSpan l (p + 6) kd = ((0 - nxt l (p + 6) 3) * 65536, nxt l (p + 6 + 1) 4 * 32768, p + 6 + 2) := by unfold jSpan; rw [if_neg k0, if_pos (by simp_all)]
        have a0 := nxt_bd (l := l) (j := p + 6) (m := 3) (by omega)
        have a1 := nxt_bd (l := l) (j := p + 6 + 1) (m := 4) (by omega)
        rw [e]
        (conv => whnf)
        refine ask_mt h ?_
        (conv => whnf)
        refine call_i (mk_Next l (p + 6) 3 (by omega) (by omega) hl) ?_
        (conv => whnf)
        refine call_i (mk_Next l (p + 6 + 1) 4 (by omega) (by omega) hl) ?_
        (conv => whnf)
        refine ret0 ?_
        rw [show IntKind.i64.wrap (0 - nxt l (p + 6) 3) = 0 - nxt l (p + 6) 3 by rw [w64] <;> omega, show IntKind.i64.wrap ((0 - nxt l (p + 6) 3) * 65536) = (0 - nxt l (p + 6) 3) * 65536 by rw [w64] <;> omega, show IntKind.i64.wrap (nxt l (p + 6 + 1) 4 * 32768) = nxt l (p + 6 + 1) 4 * 32768 by rw [w64] <;> omega]
        exact ⟨[], ⟨rfl, trivial⟩, ⟨rfl, trivial⟩⟩
      (conv => whnf)
      refine ask_m (fun h => ?_) (fun h => ?_)
      · have e : jSpan l (p + 6) kd = ((0 - nxt l (p + 6) 3) * 65536, nxt l (p + 6 + 1) 4 * 32768, p + 6 + 2) := by unfold jSpan; rw [if_neg k0, if_pos (by simp_all)]
        have a0 := nxt_bd (l := l) (j := p + 6) (m := 3) (by omega)
        have a1 := nxt_bd (l := l) (j := p + 6 + 1) (m := 4) (by omega)
        rw [e]
        (conv => whnf)
        refine call_i (mk_Next l (p + 6) 3 (by omega) (by omega) hl) ?_
        (conv => whnf)
        refine call_i (mk_Next l (p + 6 + 1) 4 (by omega) (by omega) hl) ?_
        (conv => whnf)
        refine ret0 ?_
        rw [show IntKind.i64.wrap (0 - nxt l (p + 6) 3) = 0 - nxt l (p + 6) 3 by rw [w64] <;> omega, show IntKind.i64.wrap ((0 - nxt l (p + 6) 3) * 65536) = (0 - nxt l (p + 6) 3) * 65536 by rw [w64] <;> omega, show IntKind.i64.wrap (nxt l (p + 6 + 1) 4 * 32768) = nxt l (p + 6 + 1) 4 * 32768 by rw [w64] <;> omega]
        exact ⟨[], ⟨rfl, trivial⟩, ⟨rfl, trivial⟩⟩
      · have e : jSpan l (p + 6) kd = ((0 - nxt l (p + 6) 5) * 8192, (1 + nxt l (p + 6 + 1) 4) * 8192 + nxt l (p + 6 + 2) 3, p + 6 + 3) := by unfold jSpan; rw [if_neg k0, if_neg (by simp_all)]
        rw [e]
        have a0 := nxt_bd (l := l) (j := p + 6) (m := 5) (by omega)
        have a1 := nxt_bd (l := l) (j := p + 6 + 1) (m := 4) (by omega)
        have a2 := nxt_bd (l := l) (j := p + 6 + 2) (m := 3) (by omega)
        (conv => whnf)
        refine call_i (mk_Next l (p + 6) 5 (by omega) (by omega) hl) ?_
        (conv => whnf)
        refine ⟨by omega, ?_⟩
        (conv => whnf)
        refine call_i (mk_Next l (p + 6 + 1) 4 (by omega) (by omega) hl) ?_
        (conv => whnf)
        refine ⟨by omega, ?_⟩
        (conv => whnf)
        refine call_i (mk_Next l (p + 6 + 2) 3 (by omega) (by omega) hl) ?_
        (conv => whnf)
        refine ret0 ?_
        rw [w_lo a0.1 a0.2, w_hi a1.1 a1.2 a2.1 a2.2]
        exact ⟨[], ⟨rfl, trivial⟩, ⟨rfl, trivial⟩⟩
    · have h : ¬ 0 < i := by have := of_decide_eq_false h; omega
      have ho : jOff l p i = ⟨0, 0, 0⟩ := by unfold jOff; rw [if_neg h]
      have hq : jAt p i = p + 4 := by unfold jAt; rw [if_neg h]
      rw [ho, hq]
      (conv => whnf)
      refine ask_m (fun h => ?_) (fun h => ?_)
      · have e : jSpan l (p + 4) kd = (0, 0, p + 4) := by unfold jSpan; rw [if_pos (by simpa using h)]
        rw [e]
        (conv => whnf)
        refine ret0 ?_
        exact ⟨[], ⟨rfl, trivial⟩, ⟨rfl, trivial⟩⟩
      have k0 : ¬ kd = 0 := by simpa using h
      (conv => whnf)
      refine ask_m (fun h => ?_) (fun h => ?_)
      · have e : jSpan l (p + 4) kd = ((0 - nxt l (p + 4) 3) * 65536, nxt l (p + 4 + 1) 4 * 32768, p + 4 + 2) := by unfold jSpan; rw [if_neg k0, if_pos (by simp_all)]
        have a0 := nxt_bd (l := l) (j := p + 4) (m := 3) (by omega)
        have a1 := nxt_bd (l := l) (j := p + 4 + 1) (m := 4) (by omega)
        rw [e]
        (conv => whnf)
        refine ask_mt h ?_
        (conv => whnf)
        refine call_i (mk_Next l (p + 4) 3 (by omega) (by omega) hl) ?_
        (conv => whnf)
        refine call_i (mk_Next l (p + 4 + 1) 4 (by omega) (by omega) hl) ?_
        (conv => whnf)
        refine ret0 ?_
        rw [show IntKind.i64.wrap (0 - nxt l (p + 4) 3) = 0 - nxt l (p + 4) 3 by rw [w64] <;> omega, show IntKind.i64.wrap ((0 - nxt l (p + 4) 3) * 65536) = (0 - nxt l (p + 4) 3) * 65536 by rw [w64] <;> omega, show IntKind.i64.wrap (nxt l (p + 4 + 1) 4 * 32768) = nxt l (p + 4 + 1) 4 * 32768 by rw [w64] <;> omega]
        exact ⟨[], ⟨rfl, trivial⟩, ⟨rfl, trivial⟩⟩
      (conv => whnf)
      refine ask_m (fun h => ?_) (fun h => ?_)
      · have e : jSpan l (p + 4) kd = ((0 - nxt l (p + 4) 3) * 65536, nxt l (p + 4 + 1) 4 * 32768, p + 4 + 2) := by unfold jSpan; rw [if_neg k0, if_pos (by simp_all)]
        have a0 := nxt_bd (l := l) (j := p + 4) (m := 3) (by omega)
        have a1 := nxt_bd (l := l) (j := p + 4 + 1) (m := 4) (by omega)
        rw [e]
        (conv => whnf)
        refine call_i (mk_Next l (p + 4) 3 (by omega) (by omega) hl) ?_
        (conv => whnf)
        refine call_i (mk_Next l (p + 4 + 1) 4 (by omega) (by omega) hl) ?_
        (conv => whnf)
        refine ret0 ?_
        rw [show IntKind.i64.wrap (0 - nxt l (p + 4) 3) = 0 - nxt l (p + 4) 3 by rw [w64] <;> omega, show IntKind.i64.wrap ((0 - nxt l (p + 4) 3) * 65536) = (0 - nxt l (p + 4) 3) * 65536 by rw [w64] <;> omega, show IntKind.i64.wrap (nxt l (p + 4 + 1) 4 * 32768) = nxt l (p + 4 + 1) 4 * 32768 by rw [w64] <;> omega]
        exact ⟨[], ⟨rfl, trivial⟩, ⟨rfl, trivial⟩⟩
      · have e : jSpan l (p + 4) kd = ((0 - nxt l (p + 4) 5) * 8192, (1 + nxt l (p + 4 + 1) 4) * 8192 + nxt l (p + 4 + 2) 3, p + 4 + 3) := by unfold jSpan; rw [if_neg k0, if_neg (by simp_all)]
        rw [e]
        have a0 := nxt_bd (l := l) (j := p + 4) (m := 5) (by omega)
        have a1 := nxt_bd (l := l) (j := p + 4 + 1) (m := 4) (by omega)
        have a2 := nxt_bd (l := l) (j := p + 4 + 2) (m := 3) (by omega)
        (conv => whnf)
        refine call_i (mk_Next l (p + 4) 5 (by omega) (by omega) hl) ?_
        (conv => whnf)
        refine ⟨by omega, ?_⟩
        (conv => whnf)
        refine call_i (mk_Next l (p + 4 + 1) 4 (by omega) (by omega) hl) ?_
        (conv => whnf)
        refine ⟨by omega, ?_⟩
        (conv => whnf)
        refine call_i (mk_Next l (p + 4 + 2) 3 (by omega) (by omega) hl) ?_
        (conv => whnf)
        refine ret0 ?_
        rw [w_lo a0.1 a0.2, w_hi a1.1 a1.2 a2.1 a2.2]
        exact ⟨[], ⟨rfl, trivial⟩, ⟨rfl, trivial⟩⟩
  · have hp : jParent l p i = (i : Int) - 1 := by unfold jParent; rw [if_neg (by simpa using h)]
    rw [hp]
    (conv => whnf)
    refine ask_m (fun h => ?_) (fun h => ?_)
    · have h : 0 < i := by have := of_decide_eq_true h; omega
      have ho : jOff l p i = ⟨131072, (nxt l (p + 4) 5 - 2) * 32768, (nxt l (p + 5) 3 - 1) * 32768⟩ := by unfold jOff; rw [if_pos h]
      have hq : jAt p i = p + 6 := by unfold jAt; rw [if_pos h]
      rw [ho, hq]
      (conv => whnf)
      refine call_i (mk_Signed l (p + 4) 2 5 (by omega) (by omega) (by omega) hl) ?_
      (conv => whnf)
      refine call_i (mk_Signed l (p + 5) 1 3 (by omega) (by omega) (by omega) hl) ?_
      (conv => whnf)
      have s4 := nxt_bd (l := l) (j := p + 4) (m := 5) (by omega)
      have s5 := nxt_bd (l := l) (j := p + 5) (m := 3) (by omega)
      rw [show IntKind.i64.wrap ((nxt l (p + 4) 5 - 2) * 32768) = (nxt l (p + 4) 5 - 2) * 32768 by rw [w64] <;> omega, show IntKind.i64.wrap ((nxt l (p + 5) 3 - 1) * 32768) = (nxt l (p + 5) 3 - 1) * 32768 by rw [w64] <;> omega]
      refine ask_m (fun h => ?_) (fun h => ?_)
      · have e : jSpan l (p + 6) kd = (0, 0, p + 6) := by unfold jSpan; rw [if_pos (by simpa using h)]
        rw [e]
        (conv => whnf)
        refine ret0 ?_
        exact ⟨[], ⟨rfl, trivial⟩, ⟨rfl, trivial⟩⟩
      have k0 : ¬ kd = 0 := by simpa using h
      (conv => whnf)
      refine ask_m (fun h => ?_) (fun h => ?_)
      · have e : jSpan l (p + 6) kd = ((0 - nxt l (p + 6) 3) * 65536, nxt l (p + 6 + 1) 4 * 32768, p + 6 + 2) := by unfold jSpan; rw [if_neg k0, if_pos (by simp_all)]
        have a0 := nxt_bd (l := l) (j := p + 6) (m := 3) (by omega)
        have a1 := nxt_bd (l := l) (j := p + 6 + 1) (m := 4) (by omega)
        rw [e]
        (conv => whnf)
        refine ask_mt h ?_
        (conv => whnf)
        refine call_i (mk_Next l (p + 6) 3 (by omega) (by omega) hl) ?_
        (conv => whnf)
        refine call_i (mk_Next l (p + 6 + 1) 4 (by omega) (by omega) hl) ?_
        (conv => whnf)
        refine ret0 ?_
        rw [show IntKind.i64.wrap (0 - nxt l (p + 6) 3) = 0 - nxt l (p + 6) 3 by rw [w64] <;> omega, show IntKind.i64.wrap ((0 - nxt l (p + 6) 3) * 65536) = (0 - nxt l (p + 6) 3) * 65536 by rw [w64] <;> omega, show IntKind.i64.wrap (nxt l (p + 6 + 1) 4 * 32768) = nxt l (p + 6 + 1) 4 * 32768 by rw [w64] <;> omega]
        exact ⟨[], ⟨rfl, trivial⟩, ⟨rfl, trivial⟩⟩
      (conv => whnf)
      refine ask_m (fun h => ?_) (fun h => ?_)
      · have e : jSpan l (p + 6) kd = ((0 - nxt l (p + 6) 3) * 65536, nxt l (p + 6 + 1) 4 * 32768, p + 6 + 2) := by unfold jSpan; rw [if_neg k0, if_pos (by simp_all)]
        have a0 := nxt_bd (l := l) (j := p + 6) (m := 3) (by omega)
        have a1 := nxt_bd (l := l) (j := p + 6 + 1) (m := 4) (by omega)
        rw [e]
        (conv => whnf)
        refine call_i (mk_Next l (p + 6) 3 (by omega) (by omega) hl) ?_
        (conv => whnf)
        refine call_i (mk_Next l (p + 6 + 1) 4 (by omega) (by omega) hl) ?_
        (conv => whnf)
        refine ret0 ?_
        rw [show IntKind.i64.wrap (0 - nxt l (p + 6) 3) = 0 - nxt l (p + 6) 3 by rw [w64] <;> omega, show IntKind.i64.wrap ((0 - nxt l (p + 6) 3) * 65536) = (0 - nxt l (p + 6) 3) * 65536 by rw [w64] <;> omega, show IntKind.i64.wrap (nxt l (p + 6 + 1) 4 * 32768) = nxt l (p + 6 + 1) 4 * 32768 by rw [w64] <;> omega]
        exact ⟨[], ⟨rfl, trivial⟩, ⟨rfl, trivial⟩⟩
      · have e : jSpan l (p + 6) kd = ((0 - nxt l (p + 6) 5) * 8192, (1 + nxt l (p + 6 + 1) 4) * 8192 + nxt l (p + 6 + 2) 3, p + 6 + 3) := by unfold jSpan; rw [if_neg k0, if_neg (by simp_all)]
        rw [e]
        have a0 := nxt_bd (l := l) (j := p + 6) (m := 5) (by omega)
        have a1 := nxt_bd (l := l) (j := p + 6 + 1) (m := 4) (by omega)
        have a2 := nxt_bd (l := l) (j := p + 6 + 2) (m := 3) (by omega)
        (conv => whnf)
        refine call_i (mk_Next l (p + 6) 5 (by omega) (by omega) hl) ?_
        (conv => whnf)
        refine ⟨by omega, ?_⟩
        (conv => whnf)
        refine call_i (mk_Next l (p + 6 + 1) 4 (by omega) (by omega) hl) ?_
        (conv => whnf)
        refine ⟨by omega, ?_⟩
        (conv => whnf)
        refine call_i (mk_Next l (p + 6 + 2) 3 (by omega) (by omega) hl) ?_
        (conv => whnf)
        refine ret0 ?_
        rw [w_lo a0.1 a0.2, w_hi a1.1 a1.2 a2.1 a2.2]
        exact ⟨[], ⟨rfl, trivial⟩, ⟨rfl, trivial⟩⟩
    · have h : ¬ 0 < i := by have := of_decide_eq_false h; omega
      have ho : jOff l p i = ⟨0, 0, 0⟩ := by unfold jOff; rw [if_neg h]
      have hq : jAt p i = p + 4 := by unfold jAt; rw [if_neg h]
      rw [ho, hq]
      (conv => whnf)
      refine ask_m (fun h => ?_) (fun h => ?_)
      · have e : jSpan l (p + 4) kd = (0, 0, p + 4) := by unfold jSpan; rw [if_pos (by simpa using h)]
        rw [e]
        (conv => whnf)
        refine ret0 ?_
        exact ⟨[], ⟨rfl, trivial⟩, ⟨rfl, trivial⟩⟩
      have k0 : ¬ kd = 0 := by simpa using h
      (conv => whnf)
      refine ask_m (fun h => ?_) (fun h => ?_)
      · have e : jSpan l (p + 4) kd = ((0 - nxt l (p + 4) 3) * 65536, nxt l (p + 4 + 1) 4 * 32768, p + 4 + 2) := by unfold jSpan; rw [if_neg k0, if_pos (by simp_all)]
        have a0 := nxt_bd (l := l) (j := p + 4) (m := 3) (by omega)
        have a1 := nxt_bd (l := l) (j := p + 4 + 1) (m := 4) (by omega)
        rw [e]
        (conv => whnf)
        refine ask_mt h ?_
        (conv => whnf)
        refine call_i (mk_Next l (p + 4) 3 (by omega) (by omega) hl) ?_
        (conv => whnf)
        refine call_i (mk_Next l (p + 4 + 1) 4 (by omega) (by omega) hl) ?_
        (conv => whnf)
        refine ret0 ?_
        rw [show IntKind.i64.wrap (0 - nxt l (p + 4) 3) = 0 - nxt l (p + 4) 3 by rw [w64] <;> omega, show IntKind.i64.wrap ((0 - nxt l (p + 4) 3) * 65536) = (0 - nxt l (p + 4) 3) * 65536 by rw [w64] <;> omega, show IntKind.i64.wrap (nxt l (p + 4 + 1) 4 * 32768) = nxt l (p + 4 + 1) 4 * 32768 by rw [w64] <;> omega]
        exact ⟨[], ⟨rfl, trivial⟩, ⟨rfl, trivial⟩⟩
      (conv => whnf)
      refine ask_m (fun h => ?_) (fun h => ?_)
      · have e : jSpan l (p + 4) kd = ((0 - nxt l (p + 4) 3) * 65536, nxt l (p + 4 + 1) 4 * 32768, p + 4 + 2) := by unfold jSpan; rw [if_neg k0, if_pos (by simp_all)]
        have a0 := nxt_bd (l := l) (j := p + 4) (m := 3) (by omega)
        have a1 := nxt_bd (l := l) (j := p + 4 + 1) (m := 4) (by omega)
        rw [e]
        (conv => whnf)
        refine call_i (mk_Next l (p + 4) 3 (by omega) (by omega) hl) ?_
        (conv => whnf)
        refine call_i (mk_Next l (p + 4 + 1) 4 (by omega) (by omega) hl) ?_
        (conv => whnf)
        refine ret0 ?_
        rw [show IntKind.i64.wrap (0 - nxt l (p + 4) 3) = 0 - nxt l (p + 4) 3 by rw [w64] <;> omega, show IntKind.i64.wrap ((0 - nxt l (p + 4) 3) * 65536) = (0 - nxt l (p + 4) 3) * 65536 by rw [w64] <;> omega, show IntKind.i64.wrap (nxt l (p + 4 + 1) 4 * 32768) = nxt l (p + 4 + 1) 4 * 32768 by rw [w64] <;> omega]
        exact ⟨[], ⟨rfl, trivial⟩, ⟨rfl, trivial⟩⟩
      · have e : jSpan l (p + 4) kd = ((0 - nxt l (p + 4) 5) * 8192, (1 + nxt l (p + 4 + 1) 4) * 8192 + nxt l (p + 4 + 2) 3, p + 4 + 3) := by unfold jSpan; rw [if_neg k0, if_neg (by simp_all)]
        rw [e]
        have a0 := nxt_bd (l := l) (j := p + 4) (m := 5) (by omega)
        have a1 := nxt_bd (l := l) (j := p + 4 + 1) (m := 4) (by omega)
        have a2 := nxt_bd (l := l) (j := p + 4 + 2) (m := 3) (by omega)
        (conv => whnf)
        refine call_i (mk_Next l (p + 4) 5 (by omega) (by omega) hl) ?_
        (conv => whnf)
        refine ⟨by omega, ?_⟩
        (conv => whnf)
        refine call_i (mk_Next l (p + 4 + 1) 4 (by omega) (by omega) hl) ?_
        (conv => whnf)
        refine ⟨by omega, ?_⟩
        (conv => whnf)
        refine call_i (mk_Next l (p + 4 + 2) 3 (by omega) (by omega) hl) ?_
        (conv => whnf)
        refine ret0 ?_
        rw [w_lo a0.1 a0.2, w_hi a1.1 a1.2 a2.1 a2.2]
        exact ⟨[], ⟨rfl, trivial⟩, ⟨rfl, trivial⟩⟩
end Go.Proofs.YtafglmjadbplcaaGreatDoor

/- The makers: points. -/
namespace Go.Proofs.YtafglmjadbplcaaGreatDoor
open Eng
set_option maxRecDepth 10000
attribute [local irreducible] FnOk loopW idxF retX arrF

def mkPt (l : List Int) (b : Vec) (q : Nat) : Vec := ⟨b.x + (nxt l q 7 - 3) * 32768, b.y + (nxt l (q + 1) 5 - 2) * 32768, b.z + (nxt l (q + 2) 5 - 2) * 32768⟩
def ptsTo (l : List Int) (b : Vec) (p k : Nat) : List Vec := b :: (List.range k).map fun i => mkPt l b (p + 1 + 3 * i)
def nPts (l : List Int) (p : Nat) : Nat := (nxt l p 4).toNat
def mkPts (l : List Int) (b : Vec) (p : Nat) : List Vec := ptsTo l b p (nPts l p)
def mkPtsAt (l : List Int) (p : Nat) : Nat := p + 1 + 3 * nPts l p
theorem ptsTo_succ (l : List Int) (b : Vec) (p k : Nat) : ptsTo l b p (k + 1) = ptsTo l b p k ++ [mkPt l b (p + 1 + 3 * k)] := by
  simp [ptsTo, List.range_succ]
def near (b : Vec) : Prop := (-1099511627776 ≤ b.x ∧ b.x ≤ 1099511627776) ∧ (-1099511627776 ≤ b.y ∧ b.y ≤ 1099511627776) ∧ (-1099511627776 ≤ b.z ∧ b.z ≤ 1099511627776)
theorem w_co {a c : Int} (h1 : -1099511627776 ≤ a) (h2 : a ≤ 1099511627776) (h3 : -10000 ≤ c) (h4 : c ≤ 10000) : IntKind.i64.wrap (a + IntKind.i64.wrap (c * 32768)) = a + c * 32768 := by
  rw [w64 (x := c * 32768) (by omega) (by omega), w64] <;> omega
theorem mk_points (l : List Int) (p : Nat) (b : Vec) (hl : l.length ≤ 4611686018427387904) (hb : near b) : FnOk Tryz.prog F.mk_points [.one (.vptr 0 0), Ve b] [(0, SrcJ l p)] 1 (.one (.dv (dVs (mkPts l b p)))) [(0, SrcJ l (mkPtsAt l p))] 1 := by
  refine fnOk tab mix G.mk_points rfl rfl (by kernel_rfl) rfl rfl ?_
  obtain ⟨⟨b1, b2⟩, ⟨b3, b4⟩, b5, b6⟩ := hb
  have n0 := nxt_bd (l := l) (j := p) (m := 4) (by omega)
  obtain ⟨n, hn⟩ : ∃ n : Nat, nxt l p 4 = n := ⟨(nxt l p 4).toNat, by omega⟩
  have hn2 : nPts l p = n := by simp [nPts, hn]
  rw [mkPts, mkPtsAt, hn2]
  (conv => whnf)
  refine call_i (mk_Next l p 4 (by omega) (by omega) hl) ?_
  (conv => whnf)
  rw [hn]
  refine loop_intro (fun k : Nat => ⟨[(0, .one (.vptr 0 0)), (3, .one (.vptr 1 0)), (5, .one (.row 2)), (6, I ((n : Int) - k))], [(0, SrcJ l (p + 1 + 3 * k)), (1, .vars Y.Vec [.dv (.int .i64 b.x), .dv (.int .i64 b.y), .dv (.int .i64 b.z)]), (2, .rows Y.Vec 3 ((ptsTo l b p k).map encV))], 3⟩) (fun k => k ≤ n) (fun k => n - k) [] 0 [] (Nat.zero_le _) ⟨⟨rfl, rfl, rfl, eqI (by simp), trivial⟩, ⟨rfl, rfl, rfl, trivial⟩⟩ ?_
  rintro k hk
  (conv => whnf)
  refine ask_m (fun h => ?_) (fun h => ?_)
  · have hlt : k < n := by have := of_decide_eq_true h; omega
    (conv => whnf)
    refine ⟨⟨by omega, by omega⟩, ?_⟩
    (conv => whnf)
    refine call_i (mk_Signed l (p + 1 + 3 * k) 3 7 (by omega) (by omega) (by omega) hl) ?_
    (conv => whnf)
    refine ⟨⟨by omega, by omega⟩, ?_⟩
    (conv => whnf)
    refine call_i (mk_Signed l (p + 1 + 3 * k + 1) 2 5 (by omega) (by omega) (by omega) hl) ?_
    (conv => whnf)
    refine ⟨⟨by omega, by omega⟩, ?_⟩
    (conv => whnf)
    refine call_i (mk_Signed l (p + 1 + 3 * k + 2) 2 5 (by omega) (by omega) (by omega) hl) ?_
    (conv => whnf)
    have hlen : (ptsTo l b p k).length = k + 1 := by simp [ptsTo]
    refine ⟨⟨by simp; omega, by simp; omega⟩, ?_⟩
    (conv => whnf)
    have s0 := nxt_bd (l := l) (j := p + 1 + 3 * k) (m := 7) (by omega)
    have s1 := nxt_bd (l := l) (j := p + 1 + 3 * k + 1) (m := 5) (by omega)
    have s2 := nxt_bd (l := l) (j := p + 1 + 3 * k + 2) (m := 5) (by omega)
    refine ⟨k + 1, [(2, 4)], hlt, by omega, ⟨⟨rfl, rfl, rfl, eqI ?_, trivial⟩, ⟨?_, rfl, ?_, trivial⟩⟩⟩
    · rw [w64] <;> omega
    · rw [show p + 1 + 3 * (k + 1) = p + 1 + 3 * k + 3 by omega]; rfl
    · rw [ptsTo_succ]
      rw [w_co b1 b2 (by omega) (by omega), w_co b3 b4 (by omega) (by omega), w_co b5 b6 (by omega) (by omega)]
      rw [List.map_append]
      rfl
  · have hk : k = n := by have := of_decide_eq_false h; omega
    subst hk
    (conv => whnf)
    refine retO [.frz 2] ?_
    (conv => whnf)
    exact ⟨[], ⟨rfl, trivial⟩, ⟨rfl, trivial⟩⟩
end Go.Proofs.YtafglmjadbplcaaGreatDoor

/- The makers: robots. -/
namespace Go.Proofs.YtafglmjadbplcaaGreatDoor
open Eng
set_option maxRecDepth 10000
attribute [local irreducible] FnOk loopW idxF retX arrF

def jPos (l : List Int) (p : Nat) : Nat → Nat
  | 0 => p
  | k + 1 => mkJointAt l (jPos l p k) k
def mkJoints (l : List Int) (p k : Nat) : List Joint := (List.range k).map fun i => mkJoint l (jPos l p i) i
theorem mkJoints_succ (l : List Int) (p k : Nat) : mkJoints l p (k + 1) = mkJoints l p k ++ [mkJoint l (jPos l p k) k] := by
  simp [mkJoints, List.range_succ]
def mkMass (l : List Int) (n : Nat) (q : Nat) : Mass := ⟨nxt l q n, 1 + nxt l (q + 1) 9000, ⟨(nxt l (q + 2) 7 - 3) * 32768, 0, (nxt l (q + 3) 5 - 2) * 32768⟩⟩
def mkMasses (l : List Int) (n q k : Nat) : List Mass := (List.range k).map fun i => mkMass l n (q + 1 + 4 * i)
theorem mkMasses_succ (l : List Int) (n q k : Nat) : mkMasses l n q (k + 1) = mkMasses l n q k ++ [mkMass l n (q + 1 + 4 * k)] := by
  simp [mkMasses, List.range_succ]
def nJ (l : List Int) (p : Nat) : Nat := 1 + (nxt l p 3).toNat
def qM (l : List Int) (p : Nat) : Nat := jPos l (p + 1) (nJ l p)
def nM (l : List Int) (p : Nat) : Nat := (nxt l (qM l p) 3).toNat
def mkRobot (l : List Int) (p : Nat) : Robot := ⟨mkJoints l (p + 1) (nJ l p), mkMasses l (nJ l p) (qM l p) (nM l p)⟩
def mkRobotAt (l : List Int) (p : Nat) : Nat := qM l p + 1 + 4 * nM l p
theorem mk_robot (l : List Int) (p : Nat) (hl : l.length ≤ 4611686018427387904) : FnOk Tryz.prog F.mk_robot [.one (.vptr 0 0)] [(0, SrcJ l p)] 1 (Ro (mkRobot l p)) [(0, SrcJ l (mkRobotAt l p))] 1 := by
  refine fnOk tab mix G.mk_robot rfl rfl (by kernel_rfl) rfl rfl ?_
  have n0 := nxt_bd (l := l) (j := p) (m := 3) (by omega)
  have hn : IntKind.i64.wrap (1 + nxt l p 3) = (nJ l p : Nat) := by
    rw [w64 (by omega) (by omega)]; unfold nJ; omega
  have hn2 : nJ l p ≤ 3 := by unfold nJ; omega
  have hn1 : 1 ≤ nJ l p := by unfold nJ; omega
  rw [mkRobotAt, mkRobot, nM, qM]
  (conv => whnf)
  refine call_i (mk_Next l p 3 (by omega) (by omega) hl) ?_
  (conv => whnf)
  rw [hn]
  generalize nJ l p = n at *
  refine loop_intro (fun k : Nat => ⟨[(0, .one (.vptr 0 0)), (2, .one (.vptr 1 0)), (3, .one (.vptr 2 0)), (4, I n), (5, I k)], [(0, SrcJ l (jPos l (p + 1) k)), (1, .vars Y.Robot [.nil 12, .nil 5]), (2, .vars Y.Robot [.row 3, .nil 5]), (3, .rows Y.Joint 12 ((mkJoints l (p + 1) k).map encJ))], 4⟩) (fun k => k ≤ n) (fun k => n - k) [.ownC 2 0 Y.Joint 12] 0 [] (Nat.zero_le _) ⟨⟨rfl, rfl, rfl, rfl, rfl, trivial⟩, ⟨rfl, rfl, rfl, rfl, trivial⟩⟩ ?_
  rintro k hk
  (conv => whnf)
  refine ask_m (fun h => ?_) (fun h => ?_)
  · have hlt : k < n := by have := of_decide_eq_true h; omega
    (conv => whnf)
    refine call_i (mk_joint l (jPos l (p + 1) k) k hl (by omega)) ?_
    (conv => whnf)
    have hlen : (mkJoints l (p + 1) k).length = k := by simp [mkJoints]
    have hkk : IntKind.i64.wrap ((k : Int) + 1) = ((k + 1 : Nat) : Int) := by rw [w64] <;> omega
    refine ⟨⟨by simp; omega, by simp; omega⟩, ?_⟩
    (conv => whnf)
    refine ⟨k + 1, [(3, 5)], hlt, by omega, ⟨⟨rfl, rfl, rfl, rfl, eqI hkk, trivial⟩, ⟨rfl, rfl, rfl, ?_, trivial⟩⟩⟩
    rw [mkJoints_succ, List.map_append]; rfl
  · have hk : k = n := by have := of_decide_eq_false h; omega
    subst hk
    (conv => whnf)
    refine call_i (mk_Next l (jPos l (p + 1) k) 3 (by omega) (by omega) hl) ?_
    (conv => whnf)
    generalize hq : jPos l (p + 1) k = q
    have c0 := nxt_bd (l := l) (j := q) (m := 3) (by omega)
    obtain ⟨c, hc⟩ : ∃ c : Nat, nxt l q 3 = c := ⟨(nxt l q 3).toNat, by omega⟩
    rw [hc, Int.toNat_natCast]
    refine loop_intro (fun i : Nat => ⟨[(0, .one (.vptr 0 0)), (2, .one (.vptr 1 0)), (3, .one (.vptr 2 0)), (4, I k), (6, I ((c : Int) - i))], [(0, SrcJ l (q + 1 + 4 * i)), (1, .vars Y.Robot [.nil 12, .nil 5]), (2, .vars Y.Robot [.row 3, .row 4]), (3, .rows Y.Joint 12 ((mkJoints l (p + 1) k).map encJ)), (4, .rows Y.Mass 5 ((mkMasses l k q i).map encM))], 5⟩) (fun i => i ≤ c) (fun i => c - i) [.ownC 2 1 Y.Mass 5] 0 [] (Nat.zero_le _) ⟨⟨rfl, rfl, rfl, rfl, eqI (by simp), trivial⟩, ⟨rfl, rfl, rfl, rfl, rfl, trivial⟩⟩ ?_
    rintro i hi
    (conv => whnf)
    refine ask_m (fun h => ?_) (fun h => ?_)
    · have hlt : i < c := by have := of_decide_eq_true h; omega
      (conv => whnf)
      refine call_i (mk_Next l (q + 1 + 4 * i) k (by omega) (by omega) hl) ?_
      (conv => whnf)
      refine call_i (mk_Next l (q + 1 + 4 * i + 1) 9000 (by omega) (by omega) hl) ?_
      (conv => whnf)
      refine call_i (mk_Signed l (q + 1 + 4 * i + 2) 3 7 (by omega) (by omega) (by omega) hl) ?_
      (conv => whnf)
      refine call_i (mk_Signed l (q + 1 + 4 * i + 3) 2 5 (by omega) (by omega) (by omega) hl) ?_
      (conv => whnf)
      have hlen : (mkMasses l k q i).length = i := by simp [mkMasses]
      refine ⟨⟨by simp; omega, by simp; omega⟩, ?_⟩
      (conv => whnf)
      have s1 := nxt_bd (l := l) (j := q + 1 + 4 * i + 1) (m := 9000) (by omega)
      have s2 := nxt_bd (l := l) (j := q + 1 + 4 * i + 2) (m := 7) (by omega)
      have s3 := nxt_bd (l := l) (j := q + 1 + 4 * i + 3) (m := 5) (by omega)
      refine ⟨i + 1, [(4, 6)], hlt, by omega, ⟨⟨rfl, rfl, rfl, rfl, eqI ?_, trivial⟩, ⟨?_, rfl, rfl, rfl, ?_, trivial⟩⟩⟩
      · rw [w64] <;> omega
      · rw [show q + 1 + 4 * (i + 1) = q + 1 + 4 * i + 4 by omega]; rfl
      · rw [mkMasses_succ, List.map_append, show IntKind.i64.wrap (1 + nxt l (q + 1 + 4 * i + 1) 9000) = 1 + nxt l (q + 1 + 4 * i + 1) 9000 by rw [w64] <;> omega, show IntKind.i64.wrap ((nxt l (q + 1 + 4 * i + 2) 7 - 3) * 32768) = (nxt l (q + 1 + 4 * i + 2) 7 - 3) * 32768 by rw [w64] <;> omega, show IntKind.i64.wrap ((nxt l (q + 1 + 4 * i + 3) 5 - 2) * 32768) = (nxt l (q + 1 + 4 * i + 3) 5 - 2) * 32768 by rw [w64] <;> omega]
        rfl
    · have hi : i = c := by have := of_decide_eq_false h; omega
      subst hi
      (conv => whnf)
      refine retO [.frz 3, .frz 4] ?_
      (conv => whnf)
      exact ⟨[], ⟨rfl, trivial⟩, ⟨rfl, trivial⟩⟩
end Go.Proofs.YtafglmjadbplcaaGreatDoor

/- The makers: scenes. -/
namespace Go.Proofs.YtafglmjadbplcaaGreatDoor
open Eng
set_option maxRecDepth 10000
attribute [local irreducible] FnOk loopW idxF retX arrF

def shPos (l : List Int) (q : Nat) : Nat → Nat
  | 0 => q
  | k + 1 => if nxt l (shPos l q k) 5 < 4 then mkPtsAt l (shPos l q k + 3) else shPos l q k + 1
def shOf (l : List Int) (q i : Nat) : List Shape := if nxt l q 5 < 4 then [⟨i, (1 + nxt l (q + 1) 3) * 8192, mkPts l ⟨nxt l (q + 2) 4 * 32768, 0, 0⟩ (q + 3)⟩] else []
def shLinks (l : List Int) (q k : Nat) : List Shape := (List.range k).flatMap fun i => shOf l (shPos l q i) i
theorem shLinks_succ (l : List Int) (q k : Nat) : shLinks l q (k + 1) = shLinks l q k ++ shOf l (shPos l q k) k := by
  simp [shLinks, List.range_succ]
theorem shLinks_len (l : List Int) (q k : Nat) : (shLinks l q k).length ≤ k := by
  induction k with
  | zero => simp [shLinks]
  | succ k ih =>
    rw [shLinks_succ, List.length_append]
    have : (shOf l (shPos l q k) k).length ≤ 1 := by unfold shOf; split <;> simp
    omega
def wPos (l : List Int) (q : Nat) : Nat → Nat
  | 0 => q
  | k + 1 => mkPtsAt l (wPos l q k + 4)
def shW (l : List Int) (q : Nat) : Shape := ⟨-1, (1 + nxt l (q + 3) 4) * 8192, mkPts l ⟨(nxt l q 19 - 9) * 32768, (nxt l (q + 1) 19 - 9) * 32768, (nxt l (q + 2) 5 - 2) * 32768⟩ (q + 4)⟩
def shWs (l : List Int) (q k : Nat) : List Shape := (List.range k).map fun i => shW l (wPos l q i)
theorem shWs_succ (l : List Int) (q k : Nat) : shWs l q (k + 1) = shWs l q k ++ [shW l (wPos l q k)] := by
  simp [shWs, List.range_succ]
def scQ1 (l : List Int) : Nat := shPos l (mkRobotAt l 0) (mkRobot l 0).joints.length
def scN (l : List Int) : Nat := 1 + (nxt l (scQ1 l) 3).toNat
def scQ2 (l : List Int) : Nat := wPos l (scQ1 l + 1) (scN l)
def mkSkips (l : List Int) (q n : Nat) : List Skip := if nxt l q 5 = 1 then [⟨-1, nxt l (q + 1) n⟩] else []
def mkScene (l : List Int) : Scene := ⟨mkRobot l 0, shLinks l (mkRobotAt l 0) (mkRobot l 0).joints.length ++ shWs l (scQ1 l + 1) (scN l), mkSkips l (scQ2 l) (mkRobot l 0).joints.length⟩
theorem w_rad {a : Int} (h0 : 0 ≤ a) (h1 : a < 4) : IntKind.i64.wrap ((IntKind.i64.wrap (IntKind.i64.wrap (1 + a) * 65536)).tdiv 8) = (1 + a) * 8192 := by
  rw [w64 (x := 1 + a) (by omega) (by omega), w64 (x := (1 + a) * 65536) (by omega) (by omega), show (1 + a) * 65536 = ((1 + a) * 8192) * 8 by omega, Int.mul_tdiv_cancel _ (by decide), w64] <;> omega
theorem near_mk {x y z : Int} (hx : -1099511627776 ≤ x ∧ x ≤ 1099511627776) (hy : -1099511627776 ≤ y ∧ y ≤ 1099511627776) (hz : -1099511627776 ≤ z ∧ z ≤ 1099511627776) : near ⟨x, y, z⟩ := ⟨hx, hy, hz⟩
theorem joints_len (l : List Int) (p : Nat) : 1 ≤ (mkRobot l p).joints.length ∧ (mkRobot l p).joints.length ≤ 3 := by
  have := nxt_bd (l := l) (j := p) (m := 3) (by omega)
  simp [mkRobot, mkJoints, nJ]; omega
theorem mk_Scene (l : List Int) (hl : l.length ≤ 4611686018427387904) : FnOk Tryz.prog F.mk_Scene [Li l] [] 0 (Sc (mkScene l)) [] 0 := by
  refine fnOk tab mix G.mk_Scene rfl rfl (by kernel_rfl) rfl rfl ?_
  have hn := joints_len l 0
  have hS : mkScene l = ⟨mkRobot l 0, shLinks l (mkRobotAt l 0) (mkRobot l 0).joints.length ++ shWs l (scQ1 l + 1) (scN l), mkSkips l (scQ2 l) (mkRobot l 0).joints.length⟩ := rfl
  rw [hS, scQ2, scN, scQ1]
  (conv => whnf)
  refine call_i (mk_From l) ?_
  (conv => whnf)
  refine call_i (mk_robot l 0 hl) ?_
  (conv => whnf)
  generalize mkRobot l 0 = r at *
  generalize mkRobotAt l 0 = q0
  refine loop_intro (fun k : Nat => ⟨[(2, .one (.vptr 0 0)), (3, .one (.vptr 1 0)), (4, .one (.vptr 2 0)), (5, I k)], [(0, .vars Y.Scene [.nil 12, .nil 5, .nil 3, .nil 2]), (1, SrcJ l (shPos l q0 k)), (2, .vars Y.Scene [.dv (dJs r.joints), .dv (dMs r.masses), .row 3, .nil 2]), (3, .rows Y.Shape 3 ((shLinks l q0 k).map encSh))], 4⟩) (fun k => k ≤ r.joints.length) (fun k => r.joints.length - k) [.ownC 2 2 Y.Shape 3] 0 [] (Nat.zero_le _) ⟨⟨rfl, rfl, rfl, rfl, trivial⟩, ⟨rfl, rfl, rfl, rfl, trivial⟩⟩ ?_
  rintro k hk
  (conv => whnf)
  refine ask_m (fun h => ?_) (fun h => ?_)
  · have hlt : k < r.joints.length := by simpa using h
    have hkk : IntKind.i64.wrap ((k : Int) + 1) = ((k + 1 : Nat) : Int) := by rw [w64] <;> omega
    have hll := shLinks_len l q0 k
    have hsucc := shLinks_succ l q0 k
    have hpos : shPos l q0 (k + 1) = if nxt l (shPos l q0 k) 5 < 4 then mkPtsAt l (shPos l q0 k + 3) else shPos l q0 k + 1 := rfl
    generalize shPos l q0 k = q at *
    (conv => whnf)
    refine call_i (mk_Next l q 5 (by omega) (by omega) hl) ?_
    (conv => whnf)
    refine ask_m (fun h => ?_) (fun h => ?_)
    · have h := of_decide_eq_true h
      rw [if_pos h] at hpos
      rw [shOf, if_pos h] at hsucc
      have s1 := nxt_bd (l := l) (j := q + 1) (m := 3) (by omega)
      have s2 := nxt_bd (l := l) (j := q + 2) (m := 4) (by omega)
      (conv => whnf)
      refine call_i (mk_Next l (q + 1) 3 (by omega) (by omega) hl) ?_
      (conv => whnf)
      refine ⟨by omega, ?_⟩
      (conv => whnf)
      refine call_i (mk_Next l (q + 2) 4 (by omega) (by omega) hl) ?_
      (conv => whnf)
      rw [w64 (x := nxt l (q + 2) 4 * 32768) (by omega) (by omega), w_rad s1.1 (by omega)]
      refine call_i (mk_points l (q + 3) ⟨nxt l (q + 2) 4 * 32768, 0, 0⟩ hl (near_mk (by omega) (by omega) (by omega))) ?_
      (conv => whnf)
      refine ⟨⟨by simp; omega, by simp; omega⟩, ?_⟩
      (conv => whnf)
      refine ⟨k + 1, [(3, 5)], hlt, by omega, ⟨⟨rfl, rfl, rfl, eqI hkk, trivial⟩, ⟨rfl, ?_, rfl, ?_, trivial⟩⟩⟩
      · rw [hpos]; rfl
      · rw [hsucc, List.map_append]; rfl
    · have h := of_decide_eq_false h
      rw [if_neg h] at hpos
      rw [shOf, if_neg h, List.append_nil] at hsucc
      (conv => whnf)
      refine ⟨k + 1, [], hlt, by omega, ⟨⟨rfl, rfl, rfl, eqI hkk, trivial⟩, ⟨rfl, ?_, rfl, ?_, trivial⟩⟩⟩
      · rw [hpos]; rfl
      · rw [hsucc]; rfl
  · have hk : k = r.joints.length := by simp at h; omega
    subst hk
    generalize hq1 : shPos l q0 r.joints.length = q1
    have hll := shLinks_len l q0 r.joints.length
    generalize shLinks l q0 r.joints.length = ls at *
    have c0 := nxt_bd (l := l) (j := q1) (m := 3) (by omega)
    obtain ⟨c, hc⟩ : ∃ c : Nat, 1 + (nxt l q1 3).toNat = c := ⟨_, rfl⟩
    have hc1 : IntKind.i64.wrap (1 + nxt l q1 3) = (c : Int) := by rw [w64] <;> omega
    rw [hc]
    (conv => whnf)
    refine call_i (mk_Next l q1 3 (by omega) (by omega) hl) ?_
    (conv => whnf)
    rw [hc1]
    refine loop_intro (fun k : Nat => ⟨[(2, .one (.vptr 0 0)), (3, .one (.vptr 1 0)), (4, .one (.vptr 2 0)), (6, I ((c : Int) - k))], [(0, .vars Y.Scene [.nil 12, .nil 5, .nil 3, .nil 2]), (1, SrcJ l (wPos l (q1 + 1) k)), (2, .vars Y.Scene [.dv (dJs r.joints), .dv (dMs r.masses), .row 3, .nil 2]), (3, .rows Y.Shape 3 ((ls ++ shWs l (q1 + 1) k).map encSh))], 4⟩) (fun k => k ≤ c) (fun k => c - k) [] 0 [] (Nat.zero_le _) ⟨⟨rfl, rfl, rfl, eqI (by simp), trivial⟩, ⟨rfl, rfl, rfl, ?_, trivial⟩⟩ ?_
    · simp [shWs]; rfl
    rintro k hk
    (conv => whnf)
    refine ask_m (fun h => ?_) (fun h => ?_)
    · have hlt : k < c := by have := of_decide_eq_true h; omega
      have hlen : (shWs l (q1 + 1) k).length = k := by simp [shWs]
      have hsucc := shWs_succ l (q1 + 1) k
      have hpos : wPos l (q1 + 1) (k + 1) = mkPtsAt l (wPos l (q1 + 1) k + 4) := rfl
      generalize wPos l (q1 + 1) k = q at *
      have s0 := nxt_bd (l := l) (j := q) (m := 19) (by omega)
      have s1 := nxt_bd (l := l) (j := q + 1) (m := 19) (by omega)
      have s2 := nxt_bd (l := l) (j := q + 2) (m := 5) (by omega)
      have s3 := nxt_bd (l := l) (j := q + 3) (m := 4) (by omega)
      (conv => whnf)
      refine call_i (mk_Signed l q 9 19 (by omega) (by omega) (by omega) hl) ?_
      (conv => whnf)
      refine call_i (mk_Signed l (q + 1) 9 19 (by omega) (by omega) (by omega) hl) ?_
      (conv => whnf)
      refine call_i (mk_Signed l (q + 2) 2 5 (by omega) (by omega) (by omega) hl) ?_
      (conv => whnf)
      refine call_i (mk_Next l (q + 3) 4 (by omega) (by omega) hl) ?_
      (conv => whnf)
      refine ⟨by omega, ?_⟩
      (conv => whnf)
      rw [w64 (x := (nxt l q 19 - 9) * 32768) (by omega) (by omega), w64 (x := (nxt l (q + 1) 19 - 9) * 32768) (by omega) (by omega), w64 (x := (nxt l (q + 2) 5 - 2) * 32768) (by omega) (by omega), w_rad s3.1 s3.2]
      refine call_i (mk_points l (q + 4) ⟨(nxt l q 19 - 9) * 32768, (nxt l (q + 1) 19 - 9) * 32768, (nxt l (q + 2) 5 - 2) * 32768⟩ hl (near_mk (by omega) (by omega) (by omega))) ?_
      (conv => whnf)
      refine ⟨⟨by simp; omega, by simp; omega⟩, ?_⟩
      (conv => whnf)
      refine ⟨k + 1, [(3, 6)], hlt, by omega, ⟨⟨rfl, rfl, rfl, eqI ?_, trivial⟩, ⟨rfl, ?_, rfl, ?_, trivial⟩⟩⟩
      · rw [w64] <;> omega
      · rw [hpos]; rfl
      · show Box.rows Y.Shape 3 _ = Box.rows Y.Shape 3 _
        refine congrArg _ ?_
        rw [hsucc, show ls ++ (shWs l (q1 + 1) k ++ [shW l q]) = (ls ++ shWs l (q1 + 1) k) ++ [shW l q] by rw [List.append_assoc], List.map_append (l₁ := ls ++ shWs l (q1 + 1) k)]; rfl
    · have hk : k = c := by have := of_decide_eq_false h; omega
      subst hk
      generalize wPos l (q1 + 1) k = q at *
      (conv => whnf)
      refine call_i (mk_Next l q 5 (by omega) (by omega) hl) ?_
      (conv => whnf)
      refine ask_m (fun h => ?_) (fun h => ?_)
      · have h : nxt l q 5 = 1 := by simpa using h
        rw [mkSkips, if_pos h]
        (conv => whnf)
        rw [List.length_map]
        refine call_i (mk_Next l (q + 1) r.joints.length (by omega) (by omega) hl) ?_
        (conv => whnf)
        refine ⟨⟨by simp, by simp⟩, ?_⟩
        (conv => whnf)
        refine retO [.frz 3, .frz 5] ?_
        (conv => whnf)
        exact ⟨[], ⟨rfl, trivial⟩, trivial⟩
      · have h : ¬ nxt l q 5 = 1 := by simpa using h
        rw [mkSkips, if_neg h]
        (conv => whnf)
        refine retO [.frz 3, .ownC 0 3 Y.Skip 2, .frz 4] ?_
        (conv => whnf)
        exact ⟨[], ⟨rfl, trivial⟩, trivial⟩
end Go.Proofs.YtafglmjadbplcaaGreatDoor

/- What the makers make is valid. No program in sight. -/
namespace Go.Proofs.YtafglmjadbplcaaGreatDoor
open Eng
set_option maxRecDepth 10000

/-- what is asked of a joint but for its name -/
theorem inV_mk {x y z m : Int} (h1 : -m ≤ x ∧ x ≤ m) (h2 : -m ≤ y ∧ y ≤ m) (h3 : -m ≤ z ∧ z ≤ m) : inV ⟨x, y, z⟩ m = true := by
  simp [inV]; omega
theorem letter_name : ∀ k, k < 10 → nameOk (letter k) = true := by decide
theorem letter_ne : ∀ k, k < 10 → ∀ j, j < 10 → letter k = letter j → k = j := by decide
theorem kindOf_mem {n : Int} (h0 : 0 ≤ n) (h8 : n < 8) : kindOf n = 3 ∨ kindOf n = 1 ∨ kindOf n = 2 ∨ kindOf n = 4 ∨ kindOf n = 5 ∨ kindOf n = 0 := by
  obtain ⟨k, rfl⟩ : ∃ k : Nat, n = k := ⟨n.toNat, by omega⟩
  rw [kindOf, Int.toNat_natCast]
  match k, h8 with
  | 0, _ | 1, _ | 2, _ | 3, _ | 4, _ | 5, _ | 6, _ | 7, _ => decide
  | k + 8, h => omega
theorem mkJoint_body (l : List Int) (p i : Nat) : bodyOk i (mkJoint l p i) := by
  have hk := kindOf_mem (nxt_bd (l := l) (j := p + 2) (m := 8) (by omega)).1 (nxt_bd (l := l) (j := p + 2) (m := 8) (by omega)).2
  refine ⟨?_, ?_, ?_, ?_, ?_⟩
  · show 0 ≤ kindOf _ ∧ kindOf _ ≤ 6
    omega
  · show -1 ≤ jParent l p i ∧ jParent l p i < (i : Int)
    unfold jParent; split <;> omega
  · show inV (jOff l p i) _ = true
    have h1 := nxt_bd (l := l) (j := p + 4) (m := 5) (by omega)
    have h2 := nxt_bd (l := l) (j := p + 5) (m := 3) (by omega)
    unfold jOff; split
    · exact inV_mk (by omega) (by omega) (by omega)
    · rfl
  · show (jSpan l (jAt p i) (jKind l p)).1 ≤ (jSpan l (jAt p i) (jKind l p)).2.1 ∧ - reach (jKind l p) ≤ (jSpan l (jAt p i) (jKind l p)).1 ∧ (jSpan l (jAt p i) (jKind l p)).2.1 ≤ reach (jKind l p)
    generalize jAt p i = q
    have h1 := nxt_bd (l := l) (j := q) (m := 3) (by omega)
    have h2 := nxt_bd (l := l) (j := q + 1) (m := 4) (by omega)
    have h3 := nxt_bd (l := l) (j := q) (m := 5) (by omega)
    have h4 := nxt_bd (l := l) (j := q + 2) (m := 3) (by omega)
    have hk' : jKind l p = 3 ∨ jKind l p = 1 ∨ jKind l p = 2 ∨ jKind l p = 4 ∨ jKind l p = 5 ∨ jKind l p = 0 := hk
    rcases hk' with e | e | e | e | e | e <;> rw [e] <;> simp [jSpan, reach] <;> omega
  · show (from1 (1 + nxt l p 4) 1024 && from1 65536 1048576 && from1 (65536 + nxt l (p + 1) 3) 1048576 && from1 327680 1099511627776) = true
    have h1 := nxt_bd (l := l) (j := p) (m := 4) (by omega)
    have h2 := nxt_bd (l := l) (j := p + 1) (m := 3) (by omega)
    simp [from1]; omega
theorem mkJoints_at {l : List Int} {p n k : Nat} {j : Joint} (h : (mkJoints l p n)[k]? = some j) : k < n ∧ j = mkJoint l (jPos l p k) k := by
  unfold mkJoints at h
  rw [List.getElem?_map] at h
  simp only [Option.map_eq_some_iff] at h
  obtain ⟨i, hi, rfl⟩ := h
  obtain ⟨h1, h2⟩ := List.getElem?_eq_some_iff.1 hi
  simp at h1 h2
  subst h2
  exact ⟨h1, rfl⟩
theorem mkJoints_ok (l : List Int) (p n : Nat) (hn : n ≤ 10) : jointsErr (mkJoints l p n) 0 (mkJoints l p n) = 0 := by
  refine jointsErr_zero fun k j hj => ?_
  obtain ⟨h1, h2⟩ := mkJoints_at hj
  rw [Nat.zero_add]
  refine jointErr_zero ?_ ?_ ?_
  · rw [h2]; exact letter_name k (by omega)
  · have := find_at (k := 0) hj fun i' j' hi hj' e => by
      obtain ⟨h3, h4⟩ := mkJoints_at hj'
      rw [h2, h4] at e
      have := letter_ne i' (by omega) k (by omega) e
      omega
    rw [this]; simp
  · rw [h2]; exact mkJoint_body l _ k
theorem linkOk_mk {n : Nat} {k : Int} (h1 : -1 ≤ k) (h2 : k < (n : Int)) : linkOk n k = true := by simp [linkOk]; omega
theorem massOk_mk {n : Nat} {a b : Int} {v : Vec} (h1 : 0 ≤ a) (h2 : a < (n : Int)) (h3 : 1 ≤ b) (h4 : b ≤ 65536) (h5 : inV v 4194304 = true) : massOk n ⟨a, b, v⟩ = true := by simp [massOk, from1, h5]; omega
theorem mkMass_ok (l : List Int) (n q : Nat) (hn : 0 < n) : massOk n (mkMass l n q) = true := by
  have h1 := nxt_bd (l := l) (j := q) (m := n) (by omega)
  have h2 := nxt_bd (l := l) (j := q + 1) (m := 9000) (by omega)
  have h3 := nxt_bd (l := l) (j := q + 2) (m := 7) (by omega)
  have h4 := nxt_bd (l := l) (j := q + 3) (m := 5) (by omega)
  have h5 : inV ⟨(nxt l (q + 2) 7 - 3) * 32768, 0, (nxt l (q + 3) 5 - 2) * 32768⟩ 4194304 = true := inV_mk (by omega) (by omega) (by omega)
  exact massOk_mk h1.1 h1.2 (by omega) (by omega) h5
theorem robot_valid {r : Robot} (h1 : 1 ≤ r.joints.length) (h2 : r.joints.length ≤ 10) (h3 : jointsErr r.joints 0 r.joints = 0) (h4 : r.masses.length ≤ 32) (h5 : r.masses.all (massOk r.joints.length) = true) : checkRobot r = 0 := by
  unfold checkRobot
  rw [if_neg (by omega), if_neg (by rw [h3]; simp), if_neg (by rw [h5]; simp; omega)]
theorem nJ_bd (l : List Int) (p : Nat) : 1 ≤ nJ l p ∧ nJ l p ≤ 3 := by
  have := nxt_bd (l := l) (j := p) (m := 3) (by omega)
  unfold nJ; omega
theorem mkJoints_len (l : List Int) (p n : Nat) : (mkJoints l p n).length = n := by simp [mkJoints]
theorem mkRobot_ok (l : List Int) (p : Nat) : checkRobot (mkRobot l p) = 0 := by
  have hn := nJ_bd l p
  have hl : (mkRobot l p).joints.length = nJ l p := mkJoints_len l (p + 1) (nJ l p)
  have hm := nxt_bd (l := l) (j := qM l p) (m := 3) (by omega)
  refine robot_valid (by omega) (by omega) (mkJoints_ok l (p + 1) (nJ l p) (by omega)) ?_ ?_
  · simp [mkRobot, mkMasses, nM]; omega
  · rw [hl, List.all_eq_true]
    intro m hmm
    simp only [mkRobot, mkMasses, List.mem_map] at hmm
    obtain ⟨i, _, rfl⟩ := hmm
    exact mkMass_ok l (nJ l p) _ (by omega)
theorem shapesErr_zero {n : Nat} : ∀ {l : List Shape}, (∀ x ∈ l, shapeErr n x = 0) → shapesErr n l = 0
  | [], _ => rfl
  | x :: l, h => by rw [shapesErr, if_pos (h x (by simp))]; exact shapesErr_zero fun y hy => h y (by simp [hy])
theorem shapeErr_zero {n : Nat} {x : Shape} (h1 : linkOk n x.link = true) (h2 : 1 ≤ x.radius ∧ x.radius ≤ 1048576) (h3 : 1 ≤ x.points.length ∧ x.points.length ≤ 8) (h4 : x.points.all (inV · 4194304) = true) : shapeErr n x = 0 := by
  unfold shapeErr
  rw [if_neg (by rw [h1]; rintro (h | h | h | h | h) <;> first | contradiction | omega), if_neg (by rw [h4]; simp)]
theorem mkPts_len (l : List Int) (b : Vec) (p : Nat) : 1 ≤ (mkPts l b p).length ∧ (mkPts l b p).length ≤ 4 := by
  have := nxt_bd (l := l) (j := p) (m := 4) (by omega)
  simp [mkPts, ptsTo, nPts]; omega
theorem mkPts_in (l : List Int) (b : Vec) (p : Nat) (hx : -1048576 ≤ b.x ∧ b.x ≤ 1048576) (hy : -1048576 ≤ b.y ∧ b.y ≤ 1048576) (hz : -1048576 ≤ b.z ∧ b.z ≤ 1048576) : (mkPts l b p).all (inV · 4194304) = true := by
  rw [List.all_eq_true]
  intro v hv
  simp only [mkPts, ptsTo, List.mem_cons, List.mem_map] at hv
  rcases hv with rfl | ⟨i, _, rfl⟩
  · obtain ⟨x, y, z⟩ := v
    simp only at hx hy hz
    exact inV_mk (by omega) (by omega) (by omega)
  · have h1 := nxt_bd (l := l) (j := p + 1 + 3 * i) (m := 7) (by omega)
    have h2 := nxt_bd (l := l) (j := p + 1 + 3 * i + 1) (m := 5) (by omega)
    have h3 := nxt_bd (l := l) (j := p + 1 + 3 * i + 2) (m := 5) (by omega)
    exact inV_mk (by omega) (by omega) (by omega)
theorem shOf_ok {l : List Int} {q i n : Nat} (hi : i < n) {x : Shape} (h : x ∈ shOf l q i) : shapeErr n x = 0 := by
  unfold shOf at h
  split at h
  · simp only [List.mem_singleton] at h
    subst h
    have h1 := nxt_bd (l := l) (j := q + 1) (m := 3) (by omega)
    have h2 := nxt_bd (l := l) (j := q + 2) (m := 4) (by omega)
    have h3 := mkPts_len l ⟨nxt l (q + 2) 4 * 32768, 0, 0⟩ (q + 3)
    refine shapeErr_zero ?_ ⟨?_, ?_⟩ ⟨h3.1, Nat.le_trans h3.2 (by decide)⟩ (mkPts_in l _ _ ⟨?_, ?_⟩ ⟨?_, ?_⟩ ⟨?_, ?_⟩)
    · simp [linkOk]; omega
    all_goals (simp only; omega)
  · simp at h
theorem shW_ok (l : List Int) (q n : Nat) : shapeErr n (shW l q) = 0 := by
  have h0 := nxt_bd (l := l) (j := q) (m := 19) (by omega)
  have h1 := nxt_bd (l := l) (j := q + 1) (m := 19) (by omega)
  have h2 := nxt_bd (l := l) (j := q + 2) (m := 5) (by omega)
  have h3 := nxt_bd (l := l) (j := q + 3) (m := 4) (by omega)
  have h4 := mkPts_len l ⟨(nxt l q 19 - 9) * 32768, (nxt l (q + 1) 19 - 9) * 32768, (nxt l (q + 2) 5 - 2) * 32768⟩ (q + 4)
  refine shapeErr_zero ?_ ⟨?_, ?_⟩ ⟨h4.1, Nat.le_trans h4.2 (by decide)⟩ (mkPts_in l _ _ ⟨?_, ?_⟩ ⟨?_, ?_⟩ ⟨?_, ?_⟩)
  · exact linkOk_mk (k := -1) (by omega) (by omega)
  all_goals (simp only [shW]; omega)
theorem scene_valid {s : Scene} (h1 : checkRobot s.robot = 0) (h2 : s.shapes.length ≤ 24) (h3 : ∀ x ∈ s.shapes, shapeErr s.robot.joints.length x = 0) (h4 : s.skips.length ≤ 64) (h5 : (s.skips.all fun k => linkOk s.robot.joints.length k.a && linkOk s.robot.joints.length k.b) = true) : checkScene s = 0 := by
  unfold checkScene
  rw [if_neg (by rw [h1]; simp), if_neg (by omega), if_neg (by rw [shapesErr_zero h3]; simp), if_neg (by omega), if_neg (by rw [h5]; simp)]
theorem mkScene_len (l : List Int) : (mkScene l).shapes.length ≤ 6 ∧ (mkScene l).skips.length ≤ 1 ∧ (mkScene l).robot.masses.length ≤ 2 := by
  have hn := joints_len l 0
  have h1 := shLinks_len l (mkRobotAt l 0) (mkRobot l 0).joints.length
  have h2 := nxt_bd (l := l) (j := scQ1 l) (m := 3) (by omega)
  have h3 := nxt_bd (l := l) (j := qM l 0) (m := 3) (by omega)
  refine ⟨?_, ?_, ?_⟩
  · simp only [mkScene, List.length_append, shWs, List.length_map, List.length_range, scN]; omega
  · simp only [mkScene, mkSkips]; split <;> simp
  · simp [mkScene, mkRobot, mkMasses, nM]; omega
theorem mkScene_ok (l : List Int) : checkScene (mkScene l) = 0 := by
  have hn := joints_len l 0
  obtain ⟨k1, k2, _⟩ := mkScene_len l
  refine scene_valid (mkRobot_ok l 0) (by omega) (fun x hx => ?_) (by omega) ?_
  · simp only [mkScene, List.mem_append, shLinks, List.mem_flatMap, List.mem_range, shWs, List.mem_map] at hx
    rcases hx with ⟨i, hi, hx⟩ | ⟨i, _, rfl⟩
    · exact shOf_ok hi hx
    · exact shW_ok l _ _
  · rw [List.all_eq_true]
    intro k hk
    simp only [mkScene, mkSkips] at hk
    split at hk
    · simp only [List.mem_singleton] at hk
      subst hk
      have := nxt_bd (l := l) (j := scQ2 l + 1) (m := ((mkRobot l 0).joints.length : Int)) (by omega)
      rw [Bool.and_eq_true]
      exact ⟨linkOk_mk (k := -1) (by omega) (by omega), linkOk_mk (k := nxt l (scQ2 l + 1) ((mkRobot l 0).joints.length : Int)) (by omega) this.2⟩
    · simp at hk
theorem mkScene_small (l : List Int) : small (mkScene l) := by
  have hn := joints_len l 0
  obtain ⟨k1, k2, k3⟩ := mkScene_len l
  refine ⟨by show (mkRobot l 0).joints.length ≤ _; omega, by omega, by omega, by omega, fun x hx => ?_⟩
  simp only [mkScene, List.mem_append, shLinks, List.mem_flatMap, List.mem_range, shWs, List.mem_map] at hx
  rcases hx with ⟨i, hi, hx⟩ | ⟨i, _, rfl⟩
  · unfold shOf at hx
    split at hx
    · simp only [List.mem_singleton] at hx
      subst hx
      have := mkPts_len l ⟨nxt l (shPos l (mkRobotAt l 0) i + 2) 4 * 32768, 0, 0⟩ (shPos l (mkRobotAt l 0) i + 3)
      simp only; omega
    · simp at hx
  · unfold shW
    simp only
    generalize wPos l (scQ1 l + 1) i = q
    have := mkPts_len l ⟨(nxt l q 19 - 9) * 32768, (nxt l (q + 1) 19 - 9) * 32768, (nxt l (q + 2) 5 - 2) * 32768⟩ (q + 4)
    omega
end Go.Proofs.YtafglmjadbplcaaGreatDoor

/- Formatted statements, parsed again. No program in sight. -/
namespace Go.Proofs.YtafglmjadbplcaaGreatDoor
open Eng
set_option maxRecDepth 10000

/- texts one behind the other -/
def catB {α : Type} (f : α → ByteArray) (l : List α) : ByteArray := l.foldl (fun t x => t ++ f x) ByteArray.empty
theorem catB_go {α : Type} (f : α → ByteArray) : ∀ (l : List α) (s : ByteArray), l.foldl (fun t x => t ++ f x) s = s ++ catB f l
  | [], s => by simp [catB]
  | x :: l, s => by
    rw [catB, List.foldl_cons, List.foldl_cons, catB_go f l, catB_go f l (ByteArray.empty ++ f x), ByteArray.append_assoc]
    simp
theorem catB_cons {α : Type} (f : α → ByteArray) (x : α) (l : List α) : catB f (x :: l) = f x ++ catB f l := by
  rw [catB, List.foldl_cons, catB_go]; simp
theorem catB_nil {α : Type} (f : α → ByteArray) : catB f [] = ByteArray.empty := rfl
theorem catB_take {α : Type} (f : α → ByteArray) {l : List α} {k : Nat} {x : α} (h : l[k]? = some x) : catB f (l.take (k + 1)) = catB f (l.take k) ++ f x := by
  rw [List.take_add_one, h, catB, List.foldl_append]; rfl
theorem catB_one {α : Type} (f : α → ByteArray) (x : α) : catB f [x] = f x := by rw [catB_cons, catB_nil]; simp
theorem catB_size {α : Type} {f : α → ByteArray} {c : Nat} : ∀ (l : List α), (∀ x ∈ l, (f x).size ≤ c) → (catB f l).size ≤ l.length * c
  | [], _ => by simp [catB]
  | x :: l, h => by
    have := catB_size l fun y hy => h y (by simp [hy])
    have := h x (by simp)
    rw [catB_cons, ByteArray.size_append, List.length_cons, Nat.succ_mul]; omega
theorem catB_le {α : Type} {f : α → ByteArray} {l : List α} {k : Nat} : (catB f (l.take k)).size ≤ (catB f l).size := by
  have : l = l.take k ++ l.drop k := (List.take_append_drop k l).symm
  conv => rhs; rw [this]
  rw [catB, catB, List.foldl_append, catB_go f (l.drop k), ByteArray.size_append]; exact Nat.le_add_right _ _

/- words -/
def allW (t : ByteArray) : Prop := ∀ i, i < t.size → wordB (byteAt t i) = true
def isW (t : ByteArray) : Prop := 1 ≤ t.size ∧ allW t
instance (t : ByteArray) : Decidable (allW t) := inferInstanceAs (Decidable (∀ i, i < t.size → _))
instance (t : ByteArray) : Decidable (isW t) := inferInstanceAs (Decidable (_ ∧ _))
theorem allW_app {a b : ByteArray} (ha : allW a) (hb : allW b) : allW (a ++ b) := by
  intro i hi
  rw [ByteArray.size_append] at hi
  rw [byteAt_app]
  split
  · rename_i h; exact ha i h
  · exact hb _ (by omega)
theorem isW_app {a b : ByteArray} (ha : allW a) (hb : isW b) : isW (a ++ b) := ⟨by rw [ByteArray.size_append]; have := hb.1; omega, allW_app ha hb.2⟩
theorem isW_app2 {a b : ByteArray} (ha : isW a) (hb : allW b) : isW (a ++ b) := ⟨by rw [ByteArray.size_append]; have := ha.1; omega, allW_app ha.2 hb⟩

/- a text within a text -/
def At (u : ByteArray) (p : Nat) (t : ByteArray) : Prop := p + t.size ≤ u.size ∧ ∀ i, i < t.size → byteAt u (p + i) = byteAt t i
theorem At.left {u a b : ByteArray} {p : Nat} (h : At u p (a ++ b)) : At u p a := by
  obtain ⟨h1, h2⟩ := h
  rw [ByteArray.size_append] at h1 h2
  refine ⟨by omega, fun i hi => ?_⟩
  rw [h2 i (by omega), byteAt_app, if_pos hi]
theorem At.right {u a b : ByteArray} {p : Nat} (h : At u p (a ++ b)) : At u (p + a.size) b := by
  obtain ⟨h1, h2⟩ := h
  rw [ByteArray.size_append] at h1 h2
  refine ⟨by omega, fun i hi => ?_⟩
  rw [Nat.add_assoc, h2 (a.size + i) (by omega), byteAt_app, if_neg (by omega)]
  congr 1; omega
theorem at_self (a b : ByteArray) : At (a ++ b) 0 a := by
  refine ⟨by rw [ByteArray.size_append]; omega, fun i hi => ?_⟩
  rw [Nat.zero_add, byteAt_app, if_pos hi]
theorem txt_eq {s t : ByteArray} (hs : s.size = t.size) (h : ∀ i, i < s.size → byteAt s i = byteAt t i) : s = t := by
  refine ByteArray.ext_getElem hs fun i hi hi' => ?_
  have := h i hi
  rw [byteAt_get hi, byteAt_get hi'] at this
  exact UInt8.toNat_inj.1 (Int.ofNat.inj this)
theorem byteAt_sub {s : ByteArray} {a b i : Nat} (hb : b ≤ s.size) (hi : i < b - a) : byteAt (s.extract a b) i = byteAt s (a + i) := by
  have h1 : i < (s.extract a b).size := by rw [ByteArray.size_extract]; omega
  have h2 : a + i < s.size := by omega
  rw [byteAt_get h1, byteAt_get h2, ByteArray.getElem_extract]
theorem At.ext {u t : ByteArray} {p : Nat} (h : At u p t) : u.extract p (p + t.size) = t := by
  obtain ⟨h1, h2⟩ := h
  have hs : (u.extract p (p + t.size)).size = t.size := by rw [ByteArray.size_extract]; omega
  refine txt_eq hs fun i hi => ?_
  rw [byteAt_sub h1 (by omega), h2 i (by omega)]

/- the automaton between words (Cl) and within one (Op) -/
def key (w : Word) : ByteArray × Int := (w.text, w.line)
def Cl (u : ByteArray) (q : Nat) (ln : Int) (K : List (ByteArray × Int)) : Prop := ∃ bg V, autoAt u q = ⟨ln, bg, false, -1, V, false⟩ ∧ V.map key = K
def Op (u : ByteArray) (q : Nat) (ln : Int) (K : List (ByteArray × Int)) : Prop := ∃ bg V, ∃ p : Nat, autoAt u q = ⟨ln, bg, false, p, V, false⟩ ∧ V.map key ++ [(u.extract p q, ln)] = K
theorem aut_word {s : ByteArray} {p : Nat} {ln bg : Int} {W : List Word} (h : autoAt s p = ⟨ln, bg, false, -1, W, false⟩) : ∀ m, 1 ≤ m → (∀ i, i < m → wordB (byteAt s (p + i)) = true) → autoAt s (p + m) = ⟨ln, bg, false, p, W, false⟩
  | 0, h1, _ => by omega
  | m + 1, _, hw => by
    have hm := hw m (by omega)
    have hne : ¬ byteAt s (p + m) = 10 ∧ ¬ (byteAt s (p + m) = 32 ∨ byteAt s (p + m) = 9) ∧ ¬ byteAt s (p + m) = 35 := by simp [wordB] at hm; omega
    rw [← Nat.add_assoc, auto_succ]
    rcases Nat.eq_zero_or_pos m with rfl | hp
    · simp only [Nat.add_zero] at hne hm ⊢
      rw [h, stepS, if_neg (by simp), if_neg hne.1, if_neg (by simp), if_neg hne.2.1, if_neg hne.2.2, if_neg (by rw [hm]; simp), if_pos (by show (-1 : Int) < 0; decide)]
    · rw [aut_word h m hp fun i hi => hw i (by omega), stepS, if_neg (by simp), if_neg hne.1, if_neg (by simp), if_neg hne.2.1, if_neg hne.2.2, if_neg (by rw [hm]; simp), if_neg (by show ¬ (p : Int) < 0; omega)]
theorem Cl.word {u t : ByteArray} {q : Nat} {ln : Int} {K : List (ByteArray × Int)} (h : Cl u q ln K) (ha : At u q t) (hw : isW t) : Op u (q + t.size) ln (K ++ [(t, ln)]) := by
  obtain ⟨bg, V, h1, h2⟩ := h
  refine ⟨bg, V, q, aut_word h1 t.size hw.1 fun i hi => by rw [ha.2 i hi]; exact hw.2 i hi, ?_⟩
  rw [h2, ha.ext]
theorem fin_op {u : ByteArray} {ln bg : Int} {p : Nat} {V : List Word} (k : Nat) : fin u ⟨ln, bg, false, p, V, false⟩ k = V ++ [⟨u.extract p k, ln, p - bg + 1⟩] := by
  rw [fin, if_pos (by show (0 : Int) ≤ p; omega)]; simp
theorem fin_cl {u : ByteArray} {ln bg : Int} {c d : Bool} {V : List Word} (k : Nat) : fin u ⟨ln, bg, c, -1, V, d⟩ k = V := by
  rw [fin, if_neg (by show ¬ (0 : Int) ≤ -1; decide)]
theorem Op.sp {u : ByteArray} {q : Nat} {ln : Int} {K : List (ByteArray × Int)} (h : Op u q ln K) (hb : byteAt u q = 32) : Cl u (q + 1) ln K := by
  obtain ⟨bg, V, p, h1, h2⟩ := h
  refine ⟨bg, V ++ [⟨u.extract p q, ln, p - bg + 1⟩], by rw [auto_succ, h1]; simp [stepS, hb, fin_op], ?_⟩
  rw [← h2]; simp [key]
theorem Op.nl {u : ByteArray} {q : Nat} {ln : Int} {K : List (ByteArray × Int)} (h : Op u q ln K) (hb : byteAt u q = 10) : Cl u (q + 1) (ln + 1) K := by
  obtain ⟨bg, V, p, h1, h2⟩ := h
  refine ⟨(q : Int) + 1, V ++ [⟨u.extract p q, ln, p - bg + 1⟩], by rw [auto_succ, h1]; simp [stepS, hb, fin_op], ?_⟩
  rw [← h2]; simp [key]
theorem Cl.nl {u : ByteArray} {q : Nat} {ln : Int} {K : List (ByteArray × Int)} (h : Cl u q ln K) (hb : byteAt u q = 10) : Cl u (q + 1) (ln + 1) K := by
  obtain ⟨bg, V, h1, h2⟩ := h
  exact ⟨(q : Int) + 1, V, by rw [auto_succ, h1]; simp [stepS, hb, fin_cl], h2⟩
theorem Cl.sp {u : ByteArray} {q : Nat} {ln : Int} {K : List (ByteArray × Int)} (h : Cl u q ln K) (hb : byteAt u q = 32 ∨ byteAt u q = 9) : Cl u (q + 1) ln K := by
  obtain ⟨bg, V, h1, h2⟩ := h
  refine ⟨bg, V, ?_, h2⟩
  rw [auto_succ, h1, stepS, if_neg (by simp), if_neg (by omega), if_neg (by simp), if_pos hb, fin_cl]
/-- the texts ahead of the statements, and the lines that they end -/
def noteT : ByteArray := ⟨#[35, 32, 106, 111, 105, 110, 116, 10]⟩
def preTab : List ByteArray := [ByteArray.empty, noteT, ⟨#[10, 10]⟩, ⟨#[9, 32]⟩]
def dOf (p : ByteArray) : Int := if p = noteT then 1 else if p = ⟨#[10, 10]⟩ then 2 else 0
theorem Cl.pre {u p : ByteArray} {q : Nat} {ln : Int} {K : List (ByteArray × Int)} (h : Cl u q ln K) (hp : p ∈ preTab) (ha : At u q p) : Cl u (q + p.size) (ln + dOf p) K := by
  simp only [preTab, List.mem_cons, List.not_mem_nil, or_false] at hp
  rcases hp with rfl | rfl | rfl | rfl
  · have : dOf ByteArray.empty = 0 := by decide
    rw [this, Int.add_zero]; exact h
  · have : dOf noteT = 1 := by decide
    rw [this]
    obtain ⟨bg, V, h1, h2⟩ := h
    have b0 : byteAt u q = 35 := ha.2 0 (by decide)
    have b1 : byteAt u (q + 1) = 32 := ha.2 1 (by decide)
    have b2 : byteAt u (q + 1 + 1) = 106 := ha.2 2 (by decide)
    have b3 : byteAt u (q + 1 + 1 + 1) = 111 := ha.2 3 (by decide)
    have b4 : byteAt u (q + 1 + 1 + 1 + 1) = 105 := ha.2 4 (by decide)
    have b5 : byteAt u (q + 1 + 1 + 1 + 1 + 1) = 110 := ha.2 5 (by decide)
    have b6 : byteAt u (q + 1 + 1 + 1 + 1 + 1 + 1) = 116 := ha.2 6 (by decide)
    have b7 : byteAt u (q + 1 + 1 + 1 + 1 + 1 + 1 + 1) = 10 := ha.2 7 (by decide)
    refine ⟨((q + 1 + 1 + 1 + 1 + 1 + 1 + 1 : Nat) : Int) + 1, V, ?_, h2⟩
    show autoAt u (q + 1 + 1 + 1 + 1 + 1 + 1 + 1 + 1) = _
    rw [auto_succ, auto_succ, auto_succ, auto_succ, auto_succ, auto_succ, auto_succ, auto_succ, h1]; simp [stepS, b0, b1, b2, b3, b4, b5, b6, b7, fin_cl]; omega
  · have : dOf ⟨#[10, 10]⟩ = 2 := by decide
    rw [this]
    have b0 : byteAt u q = 10 := ha.2 0 (by decide)
    have b1 : byteAt u (q + 1) = 10 := ha.2 1 (by decide)
    have := (h.nl b0).nl b1
    rw [Int.add_assoc] at this
    exact this
  · have : dOf ⟨#[9, 32]⟩ = 0 := by decide
    rw [this, Int.add_zero]
    have b0 : byteAt u q = 9 := ha.2 0 (by decide)
    have b1 : byteAt u (q + 1) = 32 := ha.2 1 (by decide)
    exact (h.sp (.inr b0)).sp (.inl b1)

/- a statement's line -/
def spT : ByteArray := ⟨#[32]⟩
def nlT : ByteArray := ⟨#[10]⟩
def argT (xs : List ByteArray) : ByteArray := catB (fun a => spT ++ a) xs
def stT (s : Stmt) : ByteArray := (s.word ++ argT s.args) ++ nlT
def fmtL (l : List Stmt) : ByteArray := catB stT l
def goodS (s : Stmt) : Prop := isW s.word ∧ (∀ a ∈ s.args, isW a) ∧ argsB s.word s.args.length = true
theorem Op.args {u : ByteArray} {ln : Int} : ∀ (xs : List ByteArray) {q : Nat} {K : List (ByteArray × Int)}, Op u q ln K → At u q (argT xs) → (∀ a ∈ xs, isW a) → Op u (q + (argT xs).size) ln (K ++ xs.map fun x => (x, ln))
  | [], q, K, h, _, _ => by simpa [argT, catB_nil] using h
  | x :: xs, q, K, h, ha, hw => by
    rw [argT, catB_cons] at ha
    have a1 := ha.left
    have b0 : byteAt u q = 32 := a1.left.2 0 (by decide)
    have h1 := (h.sp b0).word a1.right (hw x (by simp))
    have h2 := Op.args xs (q := q + 1 + x.size) h1 (by
      have := ha.right
      rw [ByteArray.size_append, ← Nat.add_assoc] at this
      exact this) fun a ha => hw a (by simp [ha])
    have e : q + (argT (x :: xs)).size = q + 1 + x.size + (argT xs).size := by
      rw [argT, catB_cons, ByteArray.size_append, ByteArray.size_append]
      show q + (1 + x.size + _) = _
      rw [argT]; omega
    rw [e]
    simpa using h2
theorem Cl.st {u : ByteArray} {q : Nat} {ln : Int} {K : List (ByteArray × Int)} {s : Stmt} (h : Cl u q ln K) (ha : At u q (stT s)) (hw : isW s.word) (hx : ∀ a ∈ s.args, isW a) : Cl u (q + (stT s).size) (ln + 1) (K ++ (s.word :: s.args).map fun x => (x, ln)) := by
  rw [stT] at ha
  have h1 := Op.args s.args (h.word ha.left.left hw) ha.left.right hx
  have a2 := ha.right
  rw [ByteArray.size_append, ← Nat.add_assoc] at a2
  have b0 : byteAt u (q + s.word.size + (argT s.args).size) = 10 := a2.2 0 (by decide)
  have h2 := h1.nl b0
  have e : q + (stT s).size = q + s.word.size + (argT s.args).size + 1 := by
    rw [stT, ByteArray.size_append, ByteArray.size_append]
    show q + (s.word.size + (argT s.args).size + 1) = _
    omega
  rw [e]
  simpa using h2

/- statements with texts ahead of them -/
def pcT (q : ByteArray × Stmt) : ByteArray := q.1 ++ stT q.2
def keysP : Int → List (ByteArray × Stmt) → List (ByteArray × Int)
  | _, [] => []
  | ln, (p, s) :: l => ((s.word :: s.args).map fun x => (x, ln + dOf p)) ++ keysP (ln + dOf p + 1) l
def place : Int → List (ByteArray × Stmt) → List Stmt
  | _, [] => []
  | ln, (p, s) :: l => ⟨ln + dOf p, s.word, s.args⟩ :: place (ln + dOf p + 1) l
def lineP : Int → List (ByteArray × Stmt) → Int
  | ln, [] => ln
  | ln, (p, _) :: l => lineP (ln + dOf p + 1) l
theorem Cl.pcs {u : ByteArray} : ∀ (l : List (ByteArray × Stmt)) {q : Nat} {ln : Int} {K : List (ByteArray × Int)}, Cl u q ln K → At u q (catB pcT l) → (∀ x ∈ l, x.1 ∈ preTab ∧ goodS x.2) → Cl u (q + (catB pcT l).size) (lineP ln l) (K ++ keysP ln l)
  | [], q, ln, K, h, _, _ => by simpa [catB_nil, keysP, lineP] using h
  | (p, s) :: l, q, ln, K, h, ha, hg => by
    rw [catB_cons] at ha
    obtain ⟨g1, g2⟩ := hg (p, s) (by simp)
    have a1 := ha.left
    rw [pcT] at a1
    have h1 := (h.pre g1 a1.left).st a1.right g2.1 g2.2.1
    have h2 := Cl.pcs l (q := q + p.size + (stT s).size) h1 (by
      have := ha.right
      rw [pcT, ByteArray.size_append, ← Nat.add_assoc] at this
      exact this) fun x hx => hg x (by simp [hx])
    have e : q + (catB pcT ((p, s) :: l)).size = q + p.size + (stT s).size + (catB pcT l).size := by
      rw [catB_cons, pcT, ByteArray.size_append, ByteArray.size_append]; simp only; omega
    rw [e, keysP, ← List.append_assoc]
    exact h2

/- grouping sees texts and lines alone -/
theorem gstep_key {a b : List Word} (h : a.map key = b.map key) (acc : List Stmt × Option Stmt) : a.foldl gstep acc = b.foldl gstep acc := by
  induction a generalizing b acc with
  | nil => cases b with
    | nil => rfl
    | cons => simp at h
  | cons x a ih => cases b with
    | nil => simp at h
    | cons y b =>
      simp only [List.map_cons, List.cons.injEq] at h
      obtain ⟨h1, h2⟩ := h
      simp only [key, Prod.mk.injEq] at h1
      have e : gstep acc x = gstep acc y := by unfold gstep; rw [h1.1, h1.2]
      rw [List.foldl_cons, List.foldl_cons, e]
      exact ih h2 _
theorem group_key {a b : List Word} (h : a.map key = b.map key) : groupOf a = groupOf b := by
  rw [groupOf, groupOf, gAll, gAll, gstep_key h]
def mkW (k : ByteArray × Int) : Word := ⟨k.1, k.2, 0⟩
theorem tail_all {ln : Int} : ∀ (xs : List ByteArray) (w : ByteArray) (ys : List ByteArray), gTail ⟨ln, w, ys⟩ ((xs.map fun x => (x, ln)).map mkW) = [⟨ln, w, ys ++ xs⟩]
  | [], w, ys => by simp [gTail]
  | x :: xs, w, ys => by
    rw [List.map_cons, List.map_cons, tail_same rfl]
    have := tail_all (ln := ln) xs w (ys ++ [x])
    simp only [mkW] at this ⊢
    rw [this]; simp
theorem keysP_ge : ∀ (l : List (ByteArray × Stmt)) (ln : Int), ∀ k ∈ keysP ln l, ln ≤ k.2
  | [], ln, k, h => by cases h
  | (p, s) :: l, ln, k, h => by
    have hd : 0 ≤ dOf p := by unfold dOf; repeat' split
                              all_goals omega
    rw [keysP] at h
    rcases List.mem_append.1 h with h | h
    · obtain ⟨x, _, rfl⟩ := List.mem_map.1 h
      simp only; omega
    · have := keysP_ge l _ k h
      omega
theorem group_keys : ∀ (l : List (ByteArray × Stmt)) (ln : Int), groupOf ((keysP ln l).map mkW) = place ln l
  | [], ln => rfl
  | (p, s) :: l, ln => by
    rw [keysP, List.map_append, group_app (L := ln + dOf p + 1), group_keys l, place]
    · rw [List.map_cons, List.map_cons, group_cons]
      have := tail_all (ln := ln + dOf p) s.args s.word []
      simp only [mkW, List.nil_append] at this ⊢
      rw [this]; rfl
    · intro w hw
      obtain ⟨k, hk, rfl⟩ := List.mem_map.1 hw
      obtain ⟨x, _, rfl⟩ := List.mem_map.1 hk
      simp only [mkW]; omega
    · intro w hw
      obtain ⟨k, hk, rfl⟩ := List.mem_map.1 hw
      exact keysP_ge l _ k hk
theorem map_key {K : List (ByteArray × Int)} : (K.map mkW).map key = K := by
  rw [List.map_map]
  have : key ∘ mkW = id := by funext k; rfl
  rw [this, List.map_id]
theorem place_len : ∀ (l : List (ByteArray × Stmt)) (ln : Int), (place ln l).length = l.length
  | [], _ => rfl
  | (p, s) :: l, ln => by rw [place, List.length_cons, place_len l, List.length_cons]
theorem place_key : ∀ (l : List (ByteArray × Stmt)) (ln : Int), (place ln l).map (keyS false) = (l.map Prod.snd).map (keyS false)
  | [], _ => rfl
  | (p, s) :: l, ln => by rw [place, List.map_cons, place_key l, List.map_cons, List.map_cons]; rfl
theorem place_err : ∀ (l : List (ByteArray × Stmt)) (ln : Int) (i : Nat), (∀ x ∈ l, goodS x.2) → i + l.length ≤ 256 → firstErr i (place ln l) = none
  | [], _, _, _, _ => rfl
  | (p, s) :: l, ln, i, hg, hi => by
    rw [List.length_cons] at hi
    obtain ⟨_, _, g3⟩ := hg (p, s) (by simp)
    simp only at g3
    have hk : knownB s.word = true := by
      unfold knownB
      unfold argsB at g3
      cases hc : countsOf s.word with
      | none => rw [hc] at g3; cases g3
      | some c => rfl
    rw [place, firstErr, if_pos (by rw [checkOf_small (by omega)]; simp only; rw [hk, g3]; rfl)]
    exact place_err l _ (i + 1) (fun x hx => hg x (by simp [hx])) (by omega)
theorem cl_zero (u : ByteArray) : Cl u 0 1 [] := ⟨0, [], rfl, rfl⟩
/-- statements with texts ahead, parsed -/
theorem parse_pcs {l : List (ByteArray × Stmt)} (hg : ∀ x ∈ l, x.1 ∈ preTab ∧ goodS x.2) (hl : l.length ≤ 256) (hs : (catB pcT l).size ≤ 16383) : parseOf (catB pcT l) = (place 1 l, 0, 0) ∧ parseOf (catB pcT l ++ ⟨#[35]⟩) = (place 1 l, 0, 0) := by
  have he := place_err l 1 0 (fun x hx => (hg x hx).2) (by omega)
  have fin_ : ∀ V : List Word, V.map key = keysP 1 l → groupOf V = place 1 l := fun V hV => by
    rw [← group_keys l 1]; exact group_key (by rw [map_key]; exact hV)
  constructor
  · have h := Cl.pcs l (cl_zero (catB pcT l)) (by have := at_self (catB pcT l) ByteArray.empty; simpa using this) hg
    rw [Nat.zero_add, List.nil_append] at h
    obtain ⟨bg, V, h1, h2⟩ := h
    have e : splitOf (catB pcT l) = (V, 0, 0) := by
      rw [splitOf, if_neg (by omega), h1, if_neg (by simp), fin_cl]
    rw [parseOf, e, if_neg (by simp)]
    simp only
    rw [fin_ V h2, he]
  · have h := Cl.pcs l (cl_zero (catB pcT l ++ ⟨#[35]⟩)) (at_self (catB pcT l) _) hg
    rw [Nat.zero_add, List.nil_append] at h
    obtain ⟨bg, V, h1, h2⟩ := h
    have hsz : (catB pcT l ++ ⟨#[35]⟩).size = (catB pcT l).size + 1 := by rw [ByteArray.size_append]; rfl
    have hb : byteAt (catB pcT l ++ ⟨#[35]⟩) (catB pcT l).size = 35 := by
      rw [byteAt_app, if_neg (by omega), Nat.sub_self]; rfl
    have e : splitOf (catB pcT l ++ ⟨#[35]⟩) = (V, 0, 0) := by
      rw [splitOf, if_neg (by omega), hsz, auto_succ, h1]
      simp [stepS, hb, fin_cl]
    rw [parseOf, e, if_neg (by simp)]
    simp only
    rw [fin_ V h2, he]
end Go.Proofs.YtafglmjadbplcaaGreatDoor

/- The words of written scenes. No program in sight. -/
namespace Go.Proofs.YtafglmjadbplcaaGreatDoor
open Eng
set_option maxRecDepth 10000

theorem wordB_in {c : Int} (h1 : 33 ≤ c) (h2 : c ≤ 126) (h3 : c ≠ 35) : wordB c = true := by simp [wordB]; omega
theorem decB_allW (k n : Nat) : allW (decB k n) := by
  intro i hi
  rw [decB_size] at hi
  rw [decB_byte n k i hi]
  exact wordB_in (by omega) (by omega) (by omega)
theorem decT_isW {n k : Nat} (hn : n ≤ 9223372036854775807) (hk : k ≤ 20) (h1 : 1 ≤ k) : isW (decT n k) ∧ (decT n k).size ≤ 20 := by
  have := decT_size hn hk
  exact ⟨⟨by omega, decB_allW _ _⟩, this.1⟩
theorem ext_allW {t : ByteArray} {k : Nat} (h : allW t) (hk : k ≤ t.size) : allW (t.extract 0 k) := by
  intro i hi
  have hs : (t.extract 0 k).size = k := by simp; omega
  rw [ext_byte hk (by omega)]
  exact h i (by omega)
theorem fracT_allW (f : Nat) : allW (fracT f) := ext_allW (decB_allW _ _) (trimN_le _ _)
theorem fracT_size {f : Nat} (hf : f < 65536) : (fracT f).size ≤ 20 := by
  have := decT_size (n := (2 * f * 100000 + 65536) / 131072) (k := 5) (by omega) (by omega)
  rw [fracT]
  simp; omega
theorem fmtT_isW (n : Int) : isW (fmtT n) ∧ (fmtT n).size ≤ 42 := by
  have hc : (clampI n).natAbs ≤ 2147483648 := by unfold clampI; omega
  have hs : allW (if clampI n < 0 then minusT else ByteArray.empty) ∧ (if clampI n < 0 then minusT else ByteArray.empty).size ≤ 1 := by
    split <;> decide
  rw [fmtT]
  generalize (if clampI n < 0 then minusT else ByteArray.empty) = s at *
  generalize (clampI n).natAbs = a at *
  obtain ⟨d1, d2⟩ := decT_isW (n := a / 65536) (k := 1) (by omega) (by omega) (by omega)
  unfold fmtS
  split
  · exact ⟨isW_app hs.1 d1, by rw [ByteArray.size_append]; omega⟩
  · have f2 := fracT_size (f := a % 65536) (by omega)
    refine ⟨isW_app2 (isW_app2 (isW_app hs.1 d1) (by decide)) (fracT_allW _), ?_⟩
    rw [ByteArray.size_append, ByteArray.size_append, ByteArray.size_append]
    show s.size + _ + 1 + _ ≤ _
    omega
theorem name_isW {s : ByteArray} (h : nameOk s = true) : isW s ∧ s.size ≤ 16 := by
  simp only [nameOk, Bool.and_eq_true, decide_eq_true_eq] at h
  obtain ⟨⟨⟨h1, h2⟩, _⟩, h4⟩ := h
  refine ⟨⟨h1, fun i hi => ?_⟩, h2⟩
  have := List.all_eq_true.1 h4 i (List.mem_range.2 hi)
  simp [nameB, letterB, digitB] at this
  exact wordB_in (by omega) (by omega) (by omega)
theorem kindN_isW {k : Int} (h0 : 0 ≤ k) (h6 : k ≤ 6) : isW (kindN k) ∧ (kindN k).size ≤ 42 := by
  have h : ∀ i, i < 7 → isW (kindTab.getD i ByteArray.empty) ∧ (kindTab.getD i ByteArray.empty).size ≤ 42 := by decide
  exact h _ (by omega)
theorem linkN_isW {js : List Joint} {k : Int} (hn : ∀ j ∈ js, nameOk j.name = true) (h0 : -1 ≤ k) (h1 : k < js.length) : isW (linkN js k) ∧ (linkN js k).size ≤ 42 := by
  unfold linkN
  split
  · decide
  · obtain ⟨j, hj⟩ : ∃ j, js[k.toNat]? = some j := ⟨_, List.getElem?_eq_getElem (by omega)⟩
    rw [hj]
    have := name_isW (hn j (List.mem_of_getElem? hj))
    exact ⟨this.1, by simp only; omega⟩
/-- a written statement: its word, its arguments, how many -/
structure WB (m : Nat) (p : ByteArray × List ByteArray) : Prop where
  word : isW p.1
  short : p.1.size ≤ 5
  args : ∀ a ∈ p.2, isW a ∧ a.size ≤ 42
  cnt : argsB p.1 p.2.length = true
  len : p.2.length ≤ m
theorem WB.st {m : Nat} {p : ByteArray × List ByteArray} (h : WB m p) (ln : Int) : goodS ⟨ln, p.1, p.2⟩ ∧ (stT ⟨ln, p.1, p.2⟩).size ≤ 6 + m * 43 := by
  refine ⟨⟨h.word, fun a ha => (h.args a ha).1, h.cnt⟩, ?_⟩
  have h1 := catB_size (f := fun a => spT ++ a) (c := 43) p.2 fun a ha => by
    have := (h.args a ha).2
    rw [ByteArray.size_append]; show 1 + _ ≤ _; omega
  have h2 := Nat.mul_le_mul_right 43 h.len
  have h3 := h.short
  rw [stT, argT, ByteArray.size_append, ByteArray.size_append]
  show p.1.size + _ + 1 ≤ _
  simp only; omega
theorem numb_mem : ∀ {l : List (ByteArray × List ByteArray)} {n : Nat} {s : Stmt}, s ∈ numb n l → ∃ p ∈ l, ∃ ln, s = ⟨ln, p.1, p.2⟩
  | [], _, _, h => by cases h
  | p :: l, n, s, h => by
    rw [numb] at h
    rcases List.mem_cons.1 h with rfl | h
    · exact ⟨p, by simp, _, rfl⟩
    · obtain ⟨q, hq, ln, e⟩ := numb_mem h
      exact ⟨q, by simp [hq], ln, e⟩
theorem shape_cnt {k : Nat} (h1 : 1 ≤ k) (h8 : k ≤ 8) : argsB wShape (2 + 3 * k : Nat) = true := by
  have : ∀ k, k < 9 → 1 ≤ k → argsB wShape (2 + 3 * k : Nat) = true := by decide
  exact this k (by omega) h1
theorem pts_len : ∀ l : List Vec, (l.flatMap ptB).length = 3 * l.length
  | [] => rfl
  | p :: l => by rw [List.flatMap_cons, List.length_append, pts_len l, List.length_cons]; show 3 + _ = _; omega
theorem scB_good {s : Scene} (h : checkScene s = 0) {m : Nat} (hm : 9 ≤ m) (hp : ∀ x ∈ s.shapes, 2 + 3 * x.points.length ≤ m) : ∀ p ∈ scB s, WB m p := by
  obtain ⟨g0, g1, g2, g3, g4⟩ := scene_facts h
  obtain ⟨f1, f2, f3, f4⟩ := robot_facts g0
  have hn : ∀ j ∈ s.robot.joints, nameOk j.name = true := fun j hj => by
    obtain ⟨i, hi⟩ := List.getElem?_of_mem hj
    exact (f2 i j hi).1
  have one : ∀ {P : ByteArray → Prop} {a : ByteArray} {l : List ByteArray}, P a → (∀ x ∈ l, P x) → ∀ x ∈ a :: l, P x := by
    intro P a l h1 h2 x hx
    rcases List.mem_cons.1 hx with rfl | hx
    · exact h1
    · exact h2 x hx
  have dec : ∀ {n m : Int}, 1 ≤ n ∧ n ≤ m → m ≤ 9223372036854775807 → isW (decT n.toNat 1) ∧ (decT n.toNat 1).size ≤ 42 := by
    intro n m hn hm
    have := decT_isW (n := n.toNat) (k := 1) (by omega) (by omega) (by omega)
    exact ⟨this.1, by omega⟩
  intro p hp'
  rw [scB, robB] at hp'
  rcases List.mem_append.1 hp' with hp' | hp'
  · rcases List.mem_append.1 hp' with hp' | hp'
    · rcases List.mem_append.1 hp' with hp' | hp'
      · obtain ⟨j, hj, hp'⟩ := List.mem_flatMap.1 hp'
        obtain ⟨i, hi⟩ := List.getElem?_of_mem hj
        obtain ⟨n1, ⟨n2, n3⟩, ⟨n4, n5⟩, n6, n7, n8⟩ := f2 i j hi
        have hil : i < s.robot.joints.length := (List.getElem?_eq_some_iff.1 hi).1
        simp only [Bool.and_eq_true] at n8
        obtain ⟨⟨⟨c1, c2⟩, c3⟩, c4⟩ := n8
        have nm := name_isW n1
        have nm' : isW j.name ∧ j.name.size ≤ 42 := ⟨nm.1, by omega⟩
        simp only [jB, List.mem_cons, List.not_mem_nil, or_false] at hp'
        rcases hp' with rfl | rfl
        · exact ⟨by show isW wJoint; decide, by show wJoint.size ≤ 5; decide, one nm' (one (kindN_isW n2 n3) (one (linkN_isW hn n4 (by omega)) (one (fmtT_isW _) (one (fmtT_isW _) (one (fmtT_isW _) (one (fmtT_isW _) (one (fmtT_isW _) (one (dec (from1_bd c1) (by decide)) (by simp))))))))), by simp only [List.length_cons, List.length_nil]; decide, by simp only [List.length_cons, List.length_nil]; omega⟩
        · exact ⟨by show isW wLimit; decide, by show wLimit.size ≤ 5; decide, one nm' (one (dec (from1_bd c2) (by decide)) (one (dec (from1_bd c3) (by decide)) (one (dec (from1_bd c4) (by decide)) (by simp)))), by simp only [List.length_cons, List.length_nil]; decide, by simp only [List.length_cons, List.length_nil]; omega⟩
      · obtain ⟨x, hx, rfl⟩ := List.mem_map.1 hp'
        have hok := f4 x hx
        simp only [massOk, Bool.and_eq_true, decide_eq_true_eq] at hok
        exact ⟨by show isW wMass; decide, by show wMass.size ≤ 5; decide, one (linkN_isW hn (by omega) (by omega)) (one (fmtT_isW _) (one (fmtT_isW _) (one (fmtT_isW _) (one (fmtT_isW _) (by simp))))), by simp only [mB, List.length_cons, List.length_nil]; decide, by simp only [mB, List.length_cons, List.length_nil]; omega⟩
    · obtain ⟨x, hx, rfl⟩ := List.mem_map.1 hp'
      obtain ⟨q1, q2, q3, q4, q5⟩ := g2 x hx
      have q1 := link_bd q1
      have hl : (shB s.robot.joints x).2.length = 2 + 3 * x.points.length := by simp only [shB, List.length_cons, pts_len]; omega
      refine ⟨by show isW wShape; decide, by show wShape.size ≤ 5; decide, one (linkN_isW hn (by omega) (by omega)) (one (fmtT_isW _) ?_), ?_, ?_⟩
      · intro a ha
        obtain ⟨v, _, ha⟩ := List.mem_flatMap.1 ha
        exact one (P := fun a => isW a ∧ a.size ≤ 42) (fmtT_isW v.x) (one (fmtT_isW v.y) (one (fmtT_isW v.z) (by simp))) a ha
      · rw [hl]; exact shape_cnt q2 q3
      · rw [hl]; exact hp x hx
  · obtain ⟨x, hx, rfl⟩ := List.mem_map.1 hp'
    obtain ⟨q1, q2⟩ := g4 x hx
    have q1 := link_bd q1
    have q2 := link_bd q2
    exact ⟨by show isW wSkip; decide, by show wSkip.size ≤ 5; decide, one (linkN_isW hn (by omega) (by omega)) (one (linkN_isW hn (by omega) (by omega)) (by simp)), by simp only [skB, List.length_cons, List.length_nil]; decide, by simp only [skB, List.length_cons, List.length_nil]; omega⟩
theorem scB_len (s : Scene) : (scB s).length = 2 * s.robot.joints.length + s.robot.masses.length + s.shapes.length + s.skips.length := by
  rw [scB, List.length_append, List.length_append, robB_len, List.length_map, List.length_map]
theorem mkScene_pts (l : List Int) : ∀ x ∈ (mkScene l).shapes, x.points.length ≤ 4 := by
  intro x hx
  rcases List.mem_append.1 hx with hx | hx
  · obtain ⟨i, _, hx⟩ := List.mem_flatMap.1 hx
    rw [shOf] at hx
    split at hx
    · simp only [List.mem_singleton] at hx; subst hx; exact (mkPts_len _ _ _).2
    · cases hx
  · obtain ⟨i, _, rfl⟩ := List.mem_map.1 hx
    exact (mkPts_len _ _ _).2
/-- the statements of a made scene -/
theorem made_good (l : List Int) : (writeScene (mkScene l)).length ≤ 15 ∧ (∀ s ∈ writeScene (mkScene l), goodS s ∧ (stT s).size ≤ 608) ∧ (∀ s ∈ writeScene (mkScene l), s.args.length ≤ 14) ∧ 1 ≤ (writeScene (mkScene l)).length := by
  have hok := mkScene_ok l
  rw [writeScene, if_pos hok]
  have h1 := mkScene_len l
  have h2 := joints_len l 0
  have h3 : (mkScene l).robot.joints.length = (mkRobot l 0).joints.length := rfl
  have hg := scB_good hok (m := 14) (by omega) fun x hx => by have := mkScene_pts l x hx; omega
  refine ⟨by rw [numb_len, scB_len]; omega, fun s hs => ?_, fun s hs => ?_, by rw [numb_len, scB_len]; omega⟩
  · obtain ⟨p, hp, ln, rfl⟩ := numb_mem hs
    exact (hg p hp).st ln
  · obtain ⟨p, hp, ln, rfl⟩ := numb_mem hs
    exact (hg p hp).len
end Go.Proofs.YtafglmjadbplcaaGreatDoor

/- A written scene, formatted and parsed. No program in sight. -/
namespace Go.Proofs.YtafglmjadbplcaaGreatDoor
open Eng
set_option maxRecDepth 10000

def bareS (l : List Stmt) : List (ByteArray × Stmt) := l.map fun s => (ByteArray.empty, s)
theorem bareS_cat : ∀ l : List Stmt, catB pcT (bareS l) = fmtL l
  | [] => rfl
  | s :: l => by
    have ih := bareS_cat l
    show catB pcT ((ByteArray.empty, s) :: bareS l) = fmtL (s :: l)
    rw [catB_cons, ih, fmtL, fmtL, catB_cons, pcT]
    simp
theorem place_numb : ∀ (l : List (ByteArray × List ByteArray)) (n : Nat), place ((n : Int) + 1) (bareS (numb n l)) = numb n l
  | [], n => rfl
  | p :: l, n => by
    have ih := place_numb l (n + 1)
    have e0 : dOf ByteArray.empty = 0 := by decide
    show place ((n : Int) + 1) ((ByteArray.empty, (⟨(n : Int) + 1, p.1, p.2⟩ : Stmt)) :: bareS (numb (n + 1) l)) = ⟨(n : Int) + 1, p.1, p.2⟩ :: numb (n + 1) l
    rw [place, e0]
    simp only [Int.add_zero]
    rw [show (n : Int) + 1 + 1 = ((n + 1 : Nat) : Int) + 1 by omega, ih]
theorem parse_pcs1 {l : List (ByteArray × Stmt)} (hg : ∀ x ∈ l, x.1 ∈ preTab ∧ goodS x.2) (hl : l.length ≤ 256) (hs : (catB pcT l).size ≤ 16384) : parseOf (catB pcT l) = (place 1 l, 0, 0) := by
  have he := place_err l 1 0 (fun x hx => (hg x hx).2) (by omega)
  have fin_ : ∀ V : List Word, V.map key = keysP 1 l → groupOf V = place 1 l := fun V hV => by
    rw [← group_keys l 1]; exact group_key (by rw [map_key]; exact hV)
  have h := Cl.pcs l (cl_zero (catB pcT l)) (by have := at_self (catB pcT l) ByteArray.empty; simpa using this) hg
  rw [Nat.zero_add, List.nil_append] at h
  obtain ⟨bg, V, h1, h2⟩ := h
  have e : splitOf (catB pcT l) = (V, 0, 0) := by
    rw [splitOf, if_neg (by omega), h1, if_neg (by simp), fin_cl]
  rw [parseOf, e, if_neg (by simp)]
  simp only
  rw [fin_ V h2, he]
theorem written_good {s : Scene} (h : checkScene s = 0) : (writeScene s).length ≤ 140 ∧ ∀ t ∈ writeScene s, goodS t ∧ (stT t).size ≤ 1124 ∧ t.args.length ≤ 26 := by
  obtain ⟨f1, f2, f3, f4, _⟩ := scene_facts h
  obtain ⟨r1, _, r3, _⟩ := robot_facts f1
  have hg := scB_good h (m := 26) (by decide) fun x hx => by have := (f3 x hx).2.2.1; omega
  rw [writeScene, if_pos h]
  refine ⟨by rw [numb_len, scB_len]; omega, fun t ht => ?_⟩
  obtain ⟨p, hp, ln, rfl⟩ := numb_mem ht
  have h1 := (hg p hp).st ln
  have h2 := (hg p hp).len
  exact ⟨h1.1, by have := h1.2; omega, h2⟩
theorem parse_written {s : Scene} (h : checkScene s = 0) (hs : (fmtL (writeScene s)).size ≤ 16384) : parseOf (fmtL (writeScene s)) = (writeScene s, 0, 0) := by
  obtain ⟨h1, h2⟩ := written_good h
  have hb : ∀ x ∈ bareS (writeScene s), x.1 ∈ preTab ∧ goodS x.2 := fun x hx => by
    obtain ⟨t, ht, rfl⟩ := List.mem_map.1 hx
    exact ⟨by simp [preTab], (h2 t ht).1⟩
  have := parse_pcs1 hb (by simp [bareS]; omega) (by rw [bareS_cat]; exact hs)
  rw [bareS_cat] at this
  rw [this]
  have e : place 1 (bareS (writeScene s)) = writeScene s := by
    rw [writeScene, if_pos h]; exact place_numb (scB s) 0
  rw [e]
theorem parse_long {t : ByteArray} (h : ¬ t.size ≤ 16384) : (parseOf t).2.1 = 601 ∧ (parseOf t).1 = [] := by
  have e : (splitOf t).2.1 = 601 := by rw [splitOf, if_pos (by omega)]
  rw [parseOf, if_pos (by rw [e]; decide)]
  exact ⟨e, rfl⟩
end Go.Proofs.YtafglmjadbplcaaGreatDoor

/- Names and small numbers: what the code of the chapters 6, 8 and 9 asks of them. -/
namespace Go.Proofs.YtafglmjadbplcaaGreatDoor
open Eng
set_option maxRecDepth 10000
attribute [local irreducible] FnOk loopW idxF retX arrF

theorem token_isLetter (c : Int) : FnOk Tryz.prog F.token_isLetter [Ru c] [] 0 (Bo (letterB c)) [] 0 := by
  refine fnOk tab mix G.token_isLetter rfl rfl (by kernel_rfl) rfl rfl ?_
  repeat' ((conv => whnf); first | refine ask_m (fun h => ?_) (fun h => ?_) | refine ret0 ?_)
  all_goals exact ret_b (by first | (simp_all [letterB]; done) | (simp_all [letterB]; omega)) rfl
theorem token_isDigit (c : Int) : FnOk Tryz.prog F.token_isDigit [Ru c] [] 0 (Bo (digitB c)) [] 0 := by
  refine fnOk tab mix G.token_isDigit rfl rfl (by kernel_rfl) rfl rfl ?_
  repeat' ((conv => whnf); first | refine ask_m (fun h => ?_) (fun h => ?_) | refine ret0 ?_)
  all_goals exact ret_b (by first | (simp_all [digitB]; done) | (simp_all [digitB]; omega)) rfl
theorem token_Name (s : ByteArray) : FnOk Tryz.prog F.token_Name [Tx s] [] 0 (Bo (nameOk s)) [] 0 := by
  refine fnOk tab mix G.token_Name rfl rfl (by kernel_rfl) rfl rfl ?_
  (conv => whnf)
  refine ask_m (fun h => ?_) (fun h => ?_)
  · (conv => whnf)
    refine ret0 ?_
    exact ret_b (by have : s.size = 0 := by simpa using h
                    simp [nameOk, this]) rfl
  have h1 : 1 ≤ s.size := by have : ¬ (s.size : Int) = 0 := by simpa using h
                             omega
  (conv => whnf)
  refine ask_m (fun h => ?_) (fun h => ?_)
  · (conv => whnf)
    refine ret0 ?_
    exact ret_b (by have : ¬ s.size ≤ 16 := by have := of_decide_eq_true h; omega
                    simp [nameOk, this]) rfl
  have h2 : s.size ≤ 16 := by have := of_decide_eq_false h; omega
  (conv => whnf)
  refine ask_m (fun h => ?_) (fun h => ?_)
  · (conv => whnf)
    refine ret0 ?_
    exact ret_b (by have : s = worldT := of_decide_eq_true h
                    subst this; rfl) rfl
  have h3 : decide (s = worldT) = false := h
  (conv => whnf)
  refine loop_intro (fun k : Nat => ⟨[(18, .one (.vptr 0 0))], [(0, .iter s k)], 1⟩) (fun k => k ≤ s.size ∧ ((List.range k).all fun i => nameB i (byteAt s i)) = true) (fun k => s.size - k) [] 0 [] ⟨Nat.zero_le _, rfl⟩ ⟨⟨rfl, trivial⟩, ⟨rfl, trivial⟩⟩ ?_
  rintro k ⟨hk, hall⟩
  (conv => whnf)
  refine ask_m (fun h => ?_) (fun h => ?_)
  · have hlt : k < s.size := of_decide_eq_true h
    obtain ⟨d1, d2⟩ := dec_name hlt
    have bad : nameB k ((Utf8.decode s k).1 : Int) = false → nameOk s = false := fun h => name_not hlt (by rw [← d1]; exact h)
    have good : nameB k ((Utf8.decode s k).1 : Int) = true → (Utf8.decode s k).2 = 1 ∧ ((List.range (k + 1)).all fun i => nameB i (byteAt s i)) = true := fun h => by
      rw [d1] at h
      exact ⟨d2 h, names_take hall h⟩
    generalize ((Utf8.decode s k).1 : Nat) = c at *
    generalize (Utf8.decode s k).2 = w at *
    (conv => whnf)
    refine call_i (token_isLetter c) ?_
    (conv => whnf)
    refine ask_m (fun hl => ?_) (fun hl => ?_)
    · have hl : letterB c = false := by simpa using hl
      (conv => whnf)
      refine ask_m (fun h0 => ?_) (fun h0 => ?_)
      · have h0 : k = 0 := by simpa using h0
        (conv => whnf)
        refine ret0 ?_
        exact ret_b (bad (by simp [nameB, hl, h0])).symm rfl
      have h0 : k ≠ 0 := by simpa using h0
      (conv => whnf)
      refine call_i (token_isDigit c) ?_
      (conv => whnf)
      refine ask_m (fun hd => ?_) (fun hd => ?_)
      · have hd : digitB c = false := by simpa using hd
        (conv => whnf)
        refine ask_m (fun hu => ?_) (fun hu => ?_)
        · have hu : ¬ (c : Int) = 95 := by simpa using hu
          (conv => whnf)
          refine ret0 ?_
          exact ret_b (bad (by simp [nameB, hl, hd, hu])).symm rfl
        · have hu : (c : Int) = 95 := by simpa using hu
          obtain ⟨rfl, g⟩ := good (by simp [nameB, h0, hu])
          (conv => whnf)
          exact ⟨k + 1, [], ⟨hlt, g⟩, by omega, ⟨⟨rfl, trivial⟩, ⟨rfl, trivial⟩⟩⟩
      · have hd : digitB c = true := by simpa using hd
        obtain ⟨rfl, g⟩ := good (by simp [nameB, h0, hd])
        (conv => whnf)
        exact ⟨k + 1, [], ⟨hlt, g⟩, by omega, ⟨⟨rfl, trivial⟩, ⟨rfl, trivial⟩⟩⟩
    · have hl : letterB c = true := by simpa using hl
      obtain ⟨rfl, g⟩ := good (by simp [nameB, hl])
      (conv => whnf)
      exact ⟨k + 1, [], ⟨hlt, g⟩, by omega, ⟨⟨rfl, trivial⟩, ⟨rfl, trivial⟩⟩⟩
  · have hk : k = s.size := by have := of_decide_eq_false h; omega
    subst hk
    (conv => whnf)
    refine ret0 ?_
    exact ret_b (by simp [nameOk, h1, h2, h3, hall]) rfl
end Go.Proofs.YtafglmjadbplcaaGreatDoor

/- Texts cut: the library's IndexByte, Index, Cut, CutPrefix at one byte. -/
namespace Go.Proofs.YtafglmjadbplcaaGreatDoor
open Eng
set_option maxRecDepth 100000
attribute [local irreducible] FnOk loopW idxF retX arrF

theorem still_fn {P : Program} {f : Nat} (he : entered P f = true) {args : List SV} {us : List Value} {sv : SV} {v : Value} (hargs : ∀ (w : World) (N : Nat → Prop) (m : List (Nat × Box)) (β : Nat → Value) (vs : List Value), All2 (SRd w N m β) args vs → vs = us)
    (hres : ∀ (w : World) (N : Nat → Prop) (m : List (Nat × Box)) (β : Nat → Value), SRd w N m β sv v) (hrf : ∀ A, RefS A sv) (hc : ∀ w, Calls P f us.toArray w fun e w' => e = .returned v ∧ w' = w) : FnOk P f args [] 0 sv [] 0 := by
  unfold FnOk
  refine ⟨he, fun w Z vs β ha hm => ?_⟩
  rw [hargs w _ _ _ vs ha]
  refine (hc w).mono ?_
  rintro e w' ⟨rfl, rfl⟩
  exact ⟨v, β, rfl, hres _ _ _ _, hrf _, hm, fun b hb => by omega⟩
theorem lib_IndexByte (s : ByteArray) (c : Int) (w : World) :
    Calls Tryz.prog 119 #[.string s, .int .u8 c] w fun e w' => e = .returned (.int .i64 (Lib.indexByte s.data.toList c.toNat.toUInt8)) ∧ w' = w := by
  go_enter Tryz.func119, Tryz.ntmps119
  go_wp2
  rw [run_callFunc_extern Tryz.func121 (by kernel_rfl) (by kernel_rfl) (by kernel_rfl) (e := Extern.BytealgIndexByte.indexByte) (by kernel_rfl), Lib.run_indexByteString]
  simp only [Result.andThen]
  rw [Oper.upon_value]
  go_wp2
  go_ret
  exact ⟨rfl, rfl⟩
theorem sl_IndexByte (s : ByteArray) (c : Int) : FnOk Tryz.prog F.internal_stringslite_IndexByte [Tx s, By c] [] 0 (I (Lib.indexByte s.data.toList c.toNat.toUInt8)) [] 0 :=
  still_fn (us := [.string s, .int .u8 c]) (v := .int .i64 (Lib.indexByte s.data.toList c.toNat.toUInt8)) (by kernel_rfl) (fun w N m β vs h => by
    obtain ⟨a, r, rfl, h1, h⟩ := all2_cons h
    obtain ⟨b, r, rfl, h2, h⟩ := all2_cons h
    obtain rfl := all2_nil h
    rw [DRd.str_inv h1, DRd.int_inv h2]) (fun w N m β => DRd.int _ _) (fun A => trivial) (lib_IndexByte s c)

/- bytes -/
theorem byteAt_ext {s : ByteArray} {a b i : Nat} (hb : b ≤ s.size) (hi : i < b - a) : byteAt (s.extract a b) i = byteAt s (a + i) := by
  have h1 : i < (s.extract a b).size := by rw [ByteArray.size_extract]; omega
  have h2 : a + i < s.size := by omega
  rw [byteAt_get h1, byteAt_get h2, ByteArray.getElem_extract]
theorem byteAt_list {s : ByteArray} {i : Nat} (h : i < s.size) : s.data.toList[i]? = some (byteAt s i).toNat.toUInt8 := by
  rw [byteAt_get h]
  have h' : i < s.data.toList.length := by simpa using h
  rw [List.getElem?_eq_getElem h']
  simp only [Int.toNat_natCast]
  show some _ = some (UInt8.ofNat (s[i]'h).toNat)
  rw [UInt8.ofNat_toNat]; rfl
theorem byte_eq {s : ByteArray} {i : Nat} {c : UInt8} (h : i < s.size) : s.data.toList[i]? = some c ↔ byteAt s i = c.toNat := by
  rw [byteAt_list h, Option.some.injEq]
  have hb := byteAt_bd s i
  constructor
  · rintro rfl
    show _ = ((UInt8.ofNat _).toNat : Int)
    rw [UInt8.toNat_ofNat']; omega
  · intro e
    rw [e]
    show UInt8.ofNat c.toNat = c
    exact UInt8.ofNat_toNat
theorem index_spec (l : List UInt8) (c : UInt8) : (Lib.indexByte l c = -1 ∧ ∀ i : Nat, l[i]? ≠ some c) ∨ ∃ p : Nat, Lib.indexByte l c = p ∧ l[p]? = some c ∧ ∀ i : Nat, i < p → l[i]? ≠ some c := by
  induction l with
  | nil => exact .inl ⟨rfl, by simp⟩
  | cons b l ih =>
    by_cases hb : b = c
    · subst hb
      exact .inr ⟨0, by simp [Lib.indexByte], rfl, fun i h => by omega⟩
    · have hbe : (b == c) = false := by simpa using hb
      rcases ih with ⟨h1, h2⟩ | ⟨p, h1, h2, h3⟩
      · refine .inl ⟨by rw [Lib.indexByte, hbe, h1]; rfl, fun i => ?_⟩
        cases i with
        | zero => simpa using hb
        | succ i => simpa using h2 i
      · refine .inr ⟨p + 1, ?_, by simpa using h2, fun i hi => ?_⟩
        · rw [Lib.indexByte, hbe, h1, if_neg (by simp), if_neg (by simp)]; omega
        · cases i with
          | zero => simpa using hb
          | succ i => simpa using h3 i (by omega)
/-- the place of the first byte c, or -1 -/
def placeOfB (s : ByteArray) (c : UInt8) : Int := Lib.indexByte s.data.toList c
theorem place_spec (s : ByteArray) (c : UInt8) : (placeOfB s c = -1 ∧ ∀ i : Nat, i < s.size → byteAt s i ≠ c.toNat) ∨ ∃ p : Nat, placeOfB s c = p ∧ p < s.size ∧ byteAt s p = c.toNat ∧ ∀ i : Nat, i < p → byteAt s i ≠ c.toNat := by
  rcases index_spec s.data.toList c with ⟨h1, h2⟩ | ⟨p, h1, h2, h3⟩
  · exact .inl ⟨h1, fun i hi e => h2 i ((byte_eq hi).2 e)⟩
  · have hp : p < s.size := by simpa using (List.getElem?_eq_some_iff.1 h2).1
    exact .inr ⟨p, h1, hp, (byte_eq hp).1 h2, fun i hi e => h3 i hi ((byte_eq (by omega)).2 e)⟩
abbrev oneB (c : UInt8) : ByteArray := ⟨#[c]⟩
theorem sl_Index (s : ByteArray) (c : UInt8) : FnOk Tryz.prog F.internal_stringslite_Index [Tx s, Tx (oneB c)] [] 0 (I (placeOfB s c)) [] 0 := by
  refine fnOk tab mix G.internal_stringslite_Index rfl rfl (by kernel_rfl) rfl rfl ?_
  (conv => whnf)
  refine ask_m (fun h => ?_) (fun h => ?_)
  · have h : oneB c = s := of_decide_eq_true h
    subst h
    have e : placeOfB (oneB c) c = 0 := by
      rcases place_spec (oneB c) c with ⟨_, h⟩ | ⟨p, h1, h2, _⟩
      · exact absurd rfl (h 0 Nat.zero_lt_one)
      · have : p < 1 := h2
        rw [h1]; omega
    rw [e]
    (conv => whnf)
    refine ret0 ?_
    exact ret_i rfl rfl
  · (conv => whnf)
    refine ⟨⟨Int.le_refl _, Int.zero_lt_one⟩, ?_⟩
    (conv => whnf)
    refine call_i (sl_IndexByte s c.toNat) ?_
    (conv => whnf)
    (conv => whnf)
    refine ret0 ?_
    refine ret_i ?_ rfl
    rw [Int.toNat_natCast]
    show Lib.indexByte _ (UInt8.ofNat c.toNat) = _
    rw [UInt8.ofNat_toNat]; rfl
abbrev Cut3 (a b : ByteArray) (c : Bool) : SV := .tup [(false, [.dv (.str a)]), (false, [.dv (.str b)]), (false, [.dv (.bool c)])]
def cutL (s : ByteArray) (c : UInt8) : ByteArray := if 0 ≤ placeOfB s c then s.extract 0 (placeOfB s c).toNat else s
def cutR (s : ByteArray) (c : UInt8) : ByteArray := if 0 ≤ placeOfB s c then s.extract ((placeOfB s c).toNat + 1) s.size else ByteArray.empty
def cutB (s : ByteArray) (c : UInt8) : Bool := decide (0 ≤ placeOfB s c)
theorem sl_Cut (s : ByteArray) (c : UInt8) (hs : s.size ≤ 4611686018427387904) : FnOk Tryz.prog F.internal_stringslite_Cut [Tx s, Tx (oneB c)] [] 0 (Cut3 (cutL s c) (cutR s c) (cutB s c)) [] 0 := by
  refine fnOk tab mix G.internal_stringslite_Cut rfl rfl (by kernel_rfl) rfl rfl ?_
  (conv => whnf)
  refine call_i (sl_Index s c) ?_
  (conv => whnf)
  rw [cutL, cutR, cutB]
  refine ask_m (fun h => ?_) (fun h => ?_)
  · have h : 0 ≤ placeOfB s c := by simpa using h
    have hp : placeOfB s c < s.size := by
      rcases place_spec s c with ⟨h1, _⟩ | ⟨p, h1, h2, _⟩
      · omega
      · omega
    rw [if_pos h, if_pos h, decide_eq_true h]
    generalize placeOfB s c = p at *
    obtain ⟨p, rfl⟩ : ∃ k : Nat, p = k := ⟨p.toNat, by omega⟩
    have w1 : IntKind.i64.wrap ((p : Int) + ((oneB c).size : Nat)) = ((p + 1 : Nat) : Int) := by show IntKind.i64.wrap ((p : Int) + 1) = _; rw [w64] <;> omega
    (conv => whnf)
    refine ⟨⟨by omega, by omega⟩, ?_⟩
    (conv => whnf)
    rw [w1, Int.toNat_natCast]
    refine ⟨⟨by omega, by omega⟩, ?_⟩
    (conv => whnf)
    rw [Int.toNat_natCast]
    (conv => whnf)
    refine ret0 ?_
    exact ⟨[], ⟨rfl, trivial⟩, trivial⟩
  · have h : ¬ 0 ≤ placeOfB s c := by simpa using h
    rw [if_neg h, if_neg h, decide_eq_false h]
    (conv => whnf)
    refine ret0 ?_
    exact ⟨[], ⟨rfl, trivial⟩, trivial⟩
theorem st_Cut (s : ByteArray) (c : UInt8) (hs : s.size ≤ 4611686018427387904) : FnOk Tryz.prog F.strings_Cut [Tx s, Tx (oneB c)] [] 0 (Cut3 (cutL s c) (cutR s c) (cutB s c)) [] 0 := by
  refine fnOk tab mix G.strings_Cut rfl rfl (by kernel_rfl) rfl rfl ?_
  (conv => whnf)
  refine call_i (sl_Cut s c hs) ?_
  (conv => whnf)
  (conv => whnf)
  refine ret0 ?_
  exact ⟨[], ⟨rfl, trivial⟩, trivial⟩
def headB (s : ByteArray) (c : UInt8) : Bool := decide (1 ≤ s.size) && decide (byteAt s 0 = c.toNat)
def tailB (s : ByteArray) (c : UInt8) : ByteArray := if headB s c then s.extract 1 s.size else s
theorem head_ext {s : ByteArray} {c : UInt8} (h : 1 ≤ s.size) : decide (s.extract 0 1 = oneB c) = decide (byteAt s 0 = c.toNat) := by
  have h1 : byteAt (s.extract 0 1) 0 = byteAt s 0 := byteAt_ext (a := 0) h (by decide)
  have h2 : (s.extract 0 1).size = 1 := by rw [ByteArray.size_extract]; omega
  refine decide_eq_decide.2 ⟨fun e => ?_, fun e => ?_⟩
  · rw [← h1, e]; rfl
  · refine ByteArray.ext_getElem h2 fun i hi hi' => ?_
    have h0 : i = 0 := by omega
    subst h0
    have h3 := byteAt_get hi
    rw [h1, e] at h3
    have h4 : c.toNat = ((s.extract 0 1)[0]'hi).toNat := Int.ofNat.inj h3
    exact (UInt8.toNat_inj.1 h4).symm
theorem sl_HasPrefix (s : ByteArray) (c : UInt8) : FnOk Tryz.prog F.internal_stringslite_HasPrefix [Tx s, Tx (oneB c)] [] 0 (Bo (headB s c)) [] 0 := by
  refine fnOk tab mix G.internal_stringslite_HasPrefix rfl rfl (by kernel_rfl) rfl rfl ?_
  (conv => whnf)
  refine ask_m (fun h => ?_) (fun h => ?_)
  · have h : 1 ≤ s.size := by have : ((1 : Nat) : Int) ≤ s.size := of_decide_eq_true h
                              omega
    (conv => whnf)
    refine ⟨⟨Int.zero_le_ofNat 1, by show ((1 : Nat) : Int) ≤ _; omega⟩, ?_⟩
    (conv => whnf)
    refine ret0 ?_
    refine ret_b ?_ rfl
    rw [headB, decide_eq_true h, Bool.true_and]
    exact head_ext h
  · have h : ¬ 1 ≤ s.size := by have : ¬ ((1 : Nat) : Int) ≤ s.size := of_decide_eq_false h
                                omega
    (conv => whnf)
    refine ret0 ?_
    refine ret_b ?_ rfl
    rw [headB, decide_eq_false h, Bool.false_and]
abbrev Cut2 (a : ByteArray) (c : Bool) : SV := .tup [(false, [.dv (.str a)]), (false, [.dv (.bool c)])]
theorem sl_CutPrefix (s : ByteArray) (c : UInt8) : FnOk Tryz.prog F.internal_stringslite_CutPrefix [Tx s, Tx (oneB c)] [] 0 (Cut2 (tailB s c) (headB s c)) [] 0 := by
  refine fnOk tab mix G.internal_stringslite_CutPrefix rfl rfl (by kernel_rfl) rfl rfl ?_
  (conv => whnf)
  refine call_i (sl_HasPrefix s c) ?_
  (conv => whnf)
  refine ask_m (fun h => ?_) (fun h => ?_)
  · have h : headB s c = false := by simpa using h
    rw [tailB, h]
    (conv => whnf)
    refine ret0 ?_
    exact ⟨[], ⟨rfl, trivial⟩, trivial⟩
  · have h : headB s c = true := by simpa using h
    have h1 : 1 ≤ s.size := by rw [headB, Bool.and_eq_true] at h; exact of_decide_eq_true h.1
    rw [tailB, h, if_pos rfl]
    (conv => whnf)
    refine ⟨⟨Int.zero_le_ofNat 1, by show ((1 : Nat) : Int) ≤ _; omega⟩, ?_⟩
    (conv => whnf)
    refine ret0 ?_
    exact ⟨[], ⟨rfl, trivial⟩, trivial⟩
theorem st_CutPrefix (s : ByteArray) (c : UInt8) : FnOk Tryz.prog F.strings_CutPrefix [Tx s, Tx (oneB c)] [] 0 (Cut2 (tailB s c) (headB s c)) [] 0 := by
  refine fnOk tab mix G.strings_CutPrefix rfl rfl (by kernel_rfl) rfl rfl ?_
  (conv => whnf)
  refine call_i (sl_CutPrefix s c) ?_
  (conv => whnf)
  (conv => whnf)
  refine ret0 ?_
  exact ⟨[], ⟨rfl, trivial⟩, trivial⟩
end Go.Proofs.YtafglmjadbplcaaGreatDoor
