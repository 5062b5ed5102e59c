import Derived.Test.YtgnblfojpcjgmaaNm
import Derived.Test.YtgnblfojpcjgmaaEngG
import Derived.Laws.RangeAny
/- Common ground for a seat's walks: integers, lists, texts. -/
namespace Go.Proofs.Ytgnblfojpcjgmaa
open Eng
set_option maxRecDepth 10000
attribute [local irreducible] FnOk loopW idxF retX arrF

theorem w64 {x : Int} (h1 : -9223372036854775808 ≤ x) (h2 : x ≤ 9223372036854775807) : IntKind.i64.wrap x = x := by
  rw [IntKind.wrap_i64]; omega
abbrev I (n : Int) : SV := .one (.dv (.int .i64 n))
abbrev Bo (b : Bool) : SV := .one (.dv (.bool b))
abbrev Tx (s : ByteArray) : SV := .one (.dv (.str s))
theorem eqI {a b : Int} (h : a = b) : I a = I b := by rw [h]
theorem eqB {a b : Bool} (h : a = b) : Bo a = Bo b := by rw [h]
def encI (n : Int) : List DV := [.int .i64 n]
abbrev Li (xs : List Int) : SV := .one (.dv (.lst 1 (xs.map encI)))
theorem all_take {α : Type} {f : α → Bool} {xs : List α} {k : Nat} {x : α} (h : (xs.take k).all f = true) (hx : xs[k]? = some x) (hf : f x = true) : (xs.take (k + 1)).all f = true := by
  rw [List.take_add_one, hx]; simp [h, hf]
theorem all_not {α : Type} {f : α → Bool} {xs : List α} {k : Nat} {x : α} (hx : xs[k]? = some x) (hf : f x = false) : xs.all f = false := by
  rw [List.all_eq_false]; exact ⟨x, List.mem_of_getElem? hx, by simp [hf]⟩
theorem any_take {α : Type} {f : α → Bool} {xs : List α} {k : Nat} {x : α} (h : (xs.take k).any f = false) (hx : xs[k]? = some x) (hf : f x = false) : (xs.take (k + 1)).any f = false := by
  rw [List.take_add_one, hx]; simp [h, hf]
theorem any_yes {α : Type} {f : α → Bool} {xs : List α} {k : Nat} {x : α} (hx : xs[k]? = some x) (hf : f x = true) : xs.any f = true := by
  rw [List.any_eq_true]; exact ⟨x, List.mem_of_getElem? hx, hf⟩
theorem drop_cons {α : Type} {l : List α} {k : Nat} {x : α} (h : l[k]? = some x) : l.drop k = x :: l.drop (k + 1) := by
  obtain ⟨h1, h2⟩ := List.getElem?_eq_some_iff.1 h
  rw [List.drop_eq_getElem_cons h1, h2]
theorem take_same {α : Type} {xs ys : List α} {k : Nat} {x : α} (h : xs.take k = ys.take k) (hx : xs[k]? = some x) (hy : ys[k]? = some x) : xs.take (k + 1) = ys.take (k + 1) := by
  rw [List.take_add_one, List.take_add_one, hx, hy, h]
theorem ne_at {α : Type} {xs ys : List α} {k : Nat} {x y : α} (hx : xs[k]? = some x) (hy : ys[k]? = some y) (h : x ≠ y) : xs ≠ ys := by
  rintro rfl; rw [hx] at hy; injection hy; contradiction
theorem range_enc {α : Type} {f : Nat → α} {enc : α → List DV} {k : Nat} : ((List.range (k + 1)).map f).map enc = ((List.range k).map f).map enc ++ [enc (f k)] := by
  simp [List.range_succ]
theorem map_of {α : Type} {enc : α → List DV} : ∀ {rs : List (List DV)}, (∀ r ∈ rs, ∃ a, r = enc a) → ∃ xs : List α, rs = xs.map enc
  | [], _ => ⟨[], rfl⟩
  | r :: rs, h => by
    obtain ⟨a, ha⟩ := h r (by simp)
    obtain ⟨xs, hx⟩ := map_of (rs := rs) fun r hr => h r (by simp [hr])
    exact ⟨a :: xs, by rw [ha, hx]; rfl⟩
theorem all2_cons {α β : Type} {R : α → β → Prop} {a : α} {l : List α} {r : List β} (h : All2 R (a :: l) r) : ∃ b r', r = b :: r' ∧ R a b ∧ All2 R l r' := by
  cases r with
  | nil => exact h.elim
  | cons b r => exact ⟨b, r, rfl, h.1, h.2⟩
theorem all2_nil {α β : Type} {R : α → β → Prop} {r : List β} (h : All2 R [] r) : r = [] := by
  cases r with
  | nil => rfl
  | cons b r => exact h.elim
theorem own : ownKnob Try.prog.godebug = none := by kernel_rfl
theorem laid : laidOutB Try.prog = true := by kernel_rfl
theorem flatI (t : Nat) (xs : List Int) : FlatB (.rows t 1 (xs.map encI)) := by
  intro r hr d hd
  obtain ⟨x, _, rfl⟩ := List.mem_map.1 hr
  simp [encI] at hd; subst hd; trivial

/- numbers -/
theorem tmod_pos {x m : Int} (hm : 0 < m) : (x.tmod m < 0 → x.tmod m + m = x % m) ∧ (0 ≤ x.tmod m → x.tmod m = x % m) ∧ -m < x.tmod m ∧ x.tmod m < m := by
  have h1 := Int.tmod_eq_emod (a := x) (b := m)
  have h2 := Int.emod_nonneg x (b := m) (by omega)
  have h3 := Int.emod_lt_of_pos x hm
  have : (m.natAbs : Int) = m := by omega
  split at h1 <;> omega
end Go.Proofs.Ytgnblfojpcjgmaa

/- Robots and scenes as data, and what the chapters 8 and 9 ask of them, in plain Lean. -/
namespace Go.Proofs.Ytgnblfojpcjgmaa
open Eng
set_option maxRecDepth 10000

structure Vec where
  x : Int
  y : Int
  z : Int
deriving DecidableEq
structure Joint where
  name : ByteArray
  kind : Int
  parent : Int
  off : Vec
  lo : Int
  hi : Int
  weight : Int
  speed : Int
  accel : Int
  torque : Int
structure Mass where
  link : Int
  mass : Int
  point : Vec
structure Shape where
  link : Int
  radius : Int
  points : List Vec
structure Skip where
  a : Int
  b : Int
deriving DecidableEq
structure Robot where
  joints : List Joint
  masses : List Mass
structure Scene where
  robot : Robot
  shapes : List Shape
  skips : List Skip
structure Pair where
  a : Int
  b : Int
deriving DecidableEq
def encV (v : Vec) : List DV := [.int .i64 v.x, .int .i64 v.y, .int .i64 v.z]
def encJ (j : Joint) : List DV := [.str j.name, .int .i64 j.kind, .int .i64 j.parent, .int .i64 j.off.x, .int .i64 j.off.y, .int .i64 j.off.z, .int .i64 j.lo, .int .i64 j.hi, .int .i64 j.weight, .int .i64 j.speed, .int .i64 j.accel, .int .i64 j.torque]
def encM (m : Mass) : List DV := [.int .i64 m.link, .int .i64 m.mass, .int .i64 m.point.x, .int .i64 m.point.y, .int .i64 m.point.z]
def encSh (s : Shape) : List DV := [.int .i64 s.link, .int .i64 s.radius, .lst 3 (s.points.map encV)]
def encSk (s : Skip) : List DV := [.int .i64 s.a, .int .i64 s.b]
def encPa (s : Pair) : List DV := [.int .i64 s.a, .int .i64 s.b]
abbrev dJs (js : List Joint) : DV := .lst 12 (js.map encJ)
abbrev dMs (ms : List Mass) : DV := .lst 5 (ms.map encM)
abbrev dShs (ss : List Shape) : DV := .lst 3 (ss.map encSh)
abbrev dSks (ss : List Skip) : DV := .lst 2 (ss.map encSk)
abbrev Ro (r : Robot) : SV := .agg [.dv (dJs r.joints), .dv (dMs r.masses)]
abbrev Sc (s : Scene) : SV := .agg [.dv (dJs s.robot.joints), .dv (dMs s.robot.masses), .dv (dShs s.shapes), .dv (dSks s.skips)]
abbrev Ve (v : Vec) : SV := .agg [.dv (.int .i64 v.x), .dv (.int .i64 v.y), .dv (.int .i64 v.z)]

abbrev Ma (m : Mass) : SV := .agg [.dv (.int .i64 m.link), .dv (.int .i64 m.mass), .dv (.int .i64 m.point.x), .dv (.int .i64 m.point.y), .dv (.int .i64 m.point.z)]
abbrev Sh (s : Shape) : SV := .agg [.dv (.int .i64 s.link), .dv (.int .i64 s.radius), .dv (.lst 3 (s.points.map encV))]
abbrev dVs (l : List Vec) : DV := .lst 3 (l.map encV)
def small (s : Scene) : Prop := s.robot.joints.length ≤ 4611686018427387904 ∧ s.robot.masses.length ≤ 4611686018427387904 ∧ s.shapes.length ≤ 4611686018427387904 ∧ s.skips.length ≤ 4611686018427387904 ∧ ∀ x ∈ s.shapes, x.points.length ≤ 4611686018427387904

/- names -/
def letterB (c : Int) : Bool := decide (97 ≤ c) && decide (c ≤ 122)
def digitB (c : Int) : Bool := decide (48 ≤ c) && decide (c ≤ 57)
def nameB (i : Nat) (c : Int) : Bool := letterB c || (decide (i ≠ 0) && (digitB c || decide (c = 95)))
def worldT : ByteArray := ⟨#[119, 111, 114, 108, 100]⟩
def nameOk (s : ByteArray) : Bool := decide (1 ≤ s.size) && decide (s.size ≤ 16) && !decide (s = worldT) && (List.range s.size).all fun i => nameB i (byteAt s i)

/- joints -/
def find : List Joint → ByteArray → Nat → Int
  | [], _, _ => -1
  | j :: js, n, k => if j.name = n then k else find js n (k + 1)
def inV (v : Vec) (m : Int) : Bool := (decide (-m ≤ v.x) && decide (v.x ≤ m)) && (decide (-m ≤ v.y) && decide (v.y ≤ m)) && (decide (-m ≤ v.z) && decide (v.z ≤ m))
def reach (k : Int) : Int := if k = 1 ∨ k = 2 ∨ k = 3 then 524288 else if k = 4 ∨ k = 5 ∨ k = 6 then 4194304 else 0
def from1 (x m : Int) : Bool := decide (1 ≤ x) && decide (x ≤ m)
def jointErr (js : List Joint) (i : Nat) (j : Joint) : Int :=
  if nameOk j.name = false ∨ find js j.name 0 ≠ i then 802
  else if j.kind < 0 ∨ 6 < j.kind then 803
  else if j.parent < -1 ∨ (i : Int) ≤ j.parent then 804
  else if inV j.off 4194304 = false then 805
  else if j.hi < j.lo ∨ j.lo < - reach j.kind ∨ reach j.kind < j.hi then 806
  else if (from1 j.weight 1024 && from1 j.speed 1048576 && from1 j.accel 1048576 && from1 j.torque 1099511627776) = false then 807
  else 0
def jointsErr (js : List Joint) : Nat → List Joint → Int
  | _, [] => 0
  | i, j :: rest => if jointErr js i j = 0 then jointsErr js (i + 1) rest else jointErr js i j
def massOk (n : Nat) (m : Mass) : Bool := decide (0 ≤ m.link) && decide (m.link < n) && from1 m.mass 65536 && inV m.point 4194304
def checkRobot (r : Robot) : Int :=
  if r.joints.length = 0 ∨ 10 < r.joints.length then 801
  else if jointsErr r.joints 0 r.joints ≠ 0 then jointsErr r.joints 0 r.joints
  else if 32 < r.masses.length ∨ r.masses.all (massOk r.joints.length) = false then 808
  else 0
def linkOk (n : Nat) (k : Int) : Bool := decide (-1 ≤ k) && decide (k < n)
def shapeErr (n : Nat) (s : Shape) : Int :=
  if linkOk n s.link = false ∨ s.radius < 1 ∨ 1048576 < s.radius ∨ s.points.length < 1 ∨ 8 < s.points.length then 902
  else if s.points.all (inV · 4194304) = false then 805
  else 0
def shapesErr (n : Nat) : List Shape → Int
  | [] => 0
  | s :: rest => if shapeErr n s = 0 then shapesErr n rest else shapeErr n s
def skipOk (n : Nat) (k : Skip) : Bool := linkOk n k.a && linkOk n k.b
def checkScene (s : Scene) : Int :=
  if checkRobot s.robot ≠ 0 then checkRobot s.robot
  else if 24 < s.shapes.length then 901
  else if shapesErr s.robot.joints.length s.shapes ≠ 0 then shapesErr s.robot.joints.length s.shapes
  else if 64 < s.skips.length then 903
  else if (s.skips.all fun k => linkOk s.robot.joints.length k.a && linkOk s.robot.joints.length k.b) = false then 903
  else 0
end Go.Proofs.Ytgnblfojpcjgmaa

/- Bytes and runes of texts. -/
namespace Go.Proofs.Ytgnblfojpcjgmaa
open Eng
set_option maxRecDepth 10000
attribute [local irreducible] FnOk loopW idxF retX arrF

abbrev Ru (c : Int) : SV := .one (.dv (.int .i32 c))
abbrev By (c : Int) : SV := .one (.dv (.int .u8 c))
theorem byteAt_get {s : ByteArray} {i : Nat} (h : i < s.size) : byteAt s i = ((s[i]'h).toNat : Int) := by
  unfold byteAt; rw [getElem?_pos s i h]; rfl
theorem byteAt_bd (s : ByteArray) (i : Nat) : 0 ≤ byteAt s i ∧ byteAt s i < 256 := by
  unfold byteAt
  have := (s[i]?.getD 0).toNat_lt
  omega
end Go.Proofs.Ytgnblfojpcjgmaa

/- Statements as data. -/
namespace Go.Proofs.Ytgnblfojpcjgmaa
open Eng

structure Stmt where
  line : Int
  word : ByteArray
  args : List ByteArray
deriving DecidableEq
def encA (s : ByteArray) : List DV := [.str s]
def encSt (s : Stmt) : List DV := [.int .i64 s.line, .str s.word, .lst 1 (s.args.map encA)]
abbrev dSts (l : List Stmt) : DV := .lst 3 (l.map encSt)
def wJoint : ByteArray := ⟨#[106, 111, 105, 110, 116]⟩
def wLimit : ByteArray := ⟨#[108, 105, 109, 105, 116]⟩
def wMass : ByteArray := ⟨#[109, 97, 115, 115]⟩
def wShape : ByteArray := ⟨#[115, 104, 97, 112, 101]⟩
def wSkip : ByteArray := ⟨#[115, 107, 105, 112]⟩
/-- statements in lines of their own -/
def numb : Nat → List (ByteArray × List ByteArray) → List Stmt
  | _, [] => []
  | n, p :: l => ⟨(n : Int) + 1, p.1, p.2⟩ :: numb (n + 1) l
theorem numb_app : ∀ (n : Nat) (a b : List (ByteArray × List ByteArray)), numb n (a ++ b) = numb n a ++ numb (n + a.length) b
  | n, [], b => rfl
  | n, p :: a, b => by
    rw [List.cons_append, numb, numb, numb_app (n + 1) a b, List.length_cons, show n + 1 + a.length = n + (a.length + 1) by omega]; rfl
theorem numb_len : ∀ (n : Nat) (a : List (ByteArray × List ByteArray)), (numb n a).length = a.length
  | _, [] => rfl
  | n, p :: a => by rw [numb, List.length_cons, numb_len, List.length_cons]
theorem numb_snoc (B : List (ByteArray × List ByteArray)) (w : ByteArray) (xs : List ByteArray) : (numb 0 (B ++ [(w, xs)])).map encSt = (numb 0 B).map encSt ++ [[.int .i64 ((B.length : Int) + 1), .str w, .lst 1 (xs.map encA)]] := by
  rw [numb_app, List.map_append, Nat.zero_add]; rfl
end Go.Proofs.Ytgnblfojpcjgmaa

/- law7: the table of words, Arguments. -/
namespace Go.Proofs.Ytgnblfojpcjgmaa
open Eng
set_option maxRecDepth 10000
attribute [local irreducible] FnOk loopW idxF retX arrF findF

structure Counts where
  least : Int
  most : Int
  step : Int
def encC (c : Counts) : List DV := [.int .i64 c.least, .int .i64 c.most, .int .i64 c.step]
abbrev Cn (c : Counts) : SV := .agg [.dv (.int .i64 c.least), .dv (.int .i64 c.most), .dv (.int .i64 c.step)]
def entC (s : ByteArray) (c : Counts) : Ent := ((false, [.str s]), (true, encC c))
def tabE : List Ent := [entC wJoint ⟨9, 9, 1⟩, entC wLimit ⟨4, 4, 1⟩, entC wMass ⟨5, 5, 1⟩, entC wShape ⟨5, 26, 3⟩, entC wSkip ⟨2, 2, 1⟩]
def countsOf (w : ByteArray) : Option Counts := if w = wJoint then some ⟨9, 9, 1⟩ else if w = wLimit then some ⟨4, 4, 1⟩ else if w = wMass then some ⟨5, 5, 1⟩ else if w = wShape then some ⟨5, 26, 3⟩ else if w = wSkip then some ⟨2, 2, 1⟩ else none
theorem mapT : Try.prog.underlying Y.map_string_syntax_counts = some (.map Y.string Y.syntax_counts) ∧ Try.prog.underlying Y.string = some .string := ⟨by kernel_rfl, by kernel_rfl⟩
theorem zC : zAgg Try.prog 87 = true := by kernel_rfl
theorem keysT : keysD .string tabE := ⟨trivial, trivial, trivial, trivial, trivial, trivial⟩
theorem syntax_table : FnOk Try.prog F.syntax_table [] [] 0 (.one (.row 0)) [(0, .mp tabE)] 1 := by
  refine fnOk tab mix G.syntax_table rfl rfl (by kernel_rfl) rfl rfl ?_
  (conv => whnf)
  refine ⟨Y.string, Y.syntax_counts, .string, ⟨mapT.1, mapT.2, trivial, trivial⟩, ?_⟩
  (conv => whnf)
  refine find_is (r := none) rfl ?_
  (conv => whnf)
  refine ⟨Y.string, Y.syntax_counts, .string, ⟨mapT.1, mapT.2, trivial, ⟨trivial, trivial⟩⟩, ?_⟩
  (conv => whnf)
  refine find_is (r := none) (by kernel_rfl) ?_
  (conv => whnf)
  refine ⟨Y.string, Y.syntax_counts, .string, ⟨mapT.1, mapT.2, trivial, ⟨trivial, trivial, trivial⟩⟩, ?_⟩
  (conv => whnf)
  refine find_is (r := none) (by kernel_rfl) ?_
  (conv => whnf)
  refine ⟨Y.string, Y.syntax_counts, .string, ⟨mapT.1, mapT.2, trivial, ⟨trivial, trivial, trivial, trivial⟩⟩, ?_⟩
  (conv => whnf)
  refine find_is (r := none) (by kernel_rfl) ?_
  (conv => whnf)
  refine ⟨Y.string, Y.syntax_counts, .string, ⟨mapT.1, mapT.2, trivial, ⟨trivial, trivial, trivial, trivial, trivial⟩⟩, ?_⟩
  (conv => whnf)
  refine find_is (r := none) (by kernel_rfl) ?_
  (conv => whnf)
  refine ret0 ?_
  exact ⟨[(0, 0)], ⟨rfl, trivial⟩, ⟨rfl, trivial⟩⟩
def posOf (w : ByteArray) : Nat := if w = wJoint then 0 else if w = wLimit then 1 else if w = wMass then 2 else if w = wShape then 3 else 4
theorem find_tab (w : ByteArray) : findD (.str w) tabE = (countsOf w).map fun c => (posOf w, (true, encC c)) := by
  unfold tabE countsOf posOf entC
  simp only [findD, keyEq]
  by_cases h1 : w = wJoint
  · simp [h1]
  by_cases h2 : w = wLimit
  · simp [h1, h2]; subst h2; simp_all
  by_cases h3 : w = wMass
  · simp [h1, h2, h3]; subst h3; simp_all
  by_cases h4 : w = wShape
  · simp [h1, h2, h3, h4]; subst h4; simp_all
  by_cases h5 : w = wSkip
  · simp [h1, h2, h3, h4, h5]; subst h5; simp_all
  simp [h1, h2, h3, h4, h5]
def allowB (c : Counts) (n : Int) : Bool := decide (c.least ≤ n) && decide (n ≤ c.most) && decide ((n - c.least) % c.step = 0)
theorem syntax_allow (c : Counts) (n : Int) (hc : 0 ≤ c.least ∧ c.most ≤ 100 ∧ 0 < c.step) : FnOk Try.prog F.syntax_counts_allow [Cn c, I n] [] 0 (Bo (allowB c n)) [] 0 := by
  refine fnOk tab mix G.syntax_counts_allow rfl rfl (by kernel_rfl) rfl rfl ?_
  (conv => whnf)
  refine ask_m (fun h => ?_) (fun h => ?_)
  · have h1 := of_decide_eq_true h
    (conv => whnf)
    refine ask_m (fun h => ?_) (fun h => ?_)
    · have h2 := of_decide_eq_true h
      have hw : IntKind.i64.wrap (n - c.least) = n - c.least := by rw [w64] <;> omega
      (conv => whnf)
      rw [hw]
      have hm : (n - c.least).tmod c.step = (n - c.least) % c.step := Int.tmod_eq_emod_of_nonneg (by omega)
      refine ⟨(by omega : c.step ≠ 0), ?_⟩
      (conv => whnf)
      rw [hm]
      (conv => whnf)
      refine ret0 ?_
      exact ret_b (by simp [allowB, h1, h2]; rfl) rfl
    · have h2 := of_decide_eq_false h
      (conv => whnf)
      refine ret0 ?_
      exact ret_b (by simp [allowB, h2]) rfl
  · have h1 := of_decide_eq_false h
    (conv => whnf)
    refine ret0 ?_
    exact ret_b (by simp [allowB, h1]) rfl
theorem counts_good {w : ByteArray} {c : Counts} (h : countsOf w = some c) : 0 ≤ c.least ∧ c.most ≤ 100 ∧ 0 < c.step := by
  unfold countsOf at h
  repeat' split at h
  all_goals first | (injection h with h; subst h; decide) | cases h
def argsB (w : ByteArray) (n : Int) : Bool := match countsOf w with
  | some c => allowB c n
  | none => false
theorem syntax_Arguments (w : ByteArray) (n : Int) : FnOk Try.prog F.syntax_Arguments [Tx w, I n] [] 0 (Bo (argsB w n)) [] 0 := by
  refine fnOk tab mix G.syntax_Arguments rfl rfl (by kernel_rfl) rfl rfl ?_
  (conv => whnf)
  refine call_i (syntax_table) ?_
  (conv => whnf)
  refine ⟨Y.string, Y.syntax_counts, .string, ⟨mapT.1, mapT.2, trivial, keysT⟩, ?_⟩
  (conv => whnf)
  refine ⟨zC, ?_⟩
  (conv => whnf)
  cases hc : countsOf w with
  | none =>
    refine find_is (r := none) (by rw [find_tab, hc]; rfl) ?_
    (conv => whnf)
    refine ret0 ?_
    exact ret_b (by rw [argsB, hc]) rfl
  | some c =>
    refine find_is (r := some (posOf w, (true, encC c))) (by rw [find_tab, hc]; rfl) ?_
    (conv => whnf)
    refine call_i (syntax_allow c n (counts_good hc)) ?_
    (conv => whnf)
    (conv => whnf)
    refine ret0 ?_
    exact ret_b (by rw [argsB, hc]) rfl
theorem ref_Arguments (w : ByteArray) (n : Int) : FnOk Try.prog F.ref6_Arguments [Tx w, I n] [] 0 (Bo (argsB w n)) [] 0 := by
  refine fnOk tab mix G.ref6_Arguments rfl rfl (by kernel_rfl) rfl rfl ?_
  (conv => whnf)
  have e1 : ∀ x, countsOf w = some x → argsB w n = allowB x n := fun x h => by rw [argsB, h]
  refine ask_m (fun h => ?_) (fun h => ?_)
  · have h : w = wJoint := of_decide_eq_true h
    (conv => whnf)
    refine ret0 ?_
    exact ret_b (by rw [e1 ⟨9, 9, 1⟩ (by rw [countsOf, if_pos h]), Bool.eq_iff_iff]; simp [allowB]; omega) rfl
  have n1 : ¬ w = wJoint := of_decide_eq_false h
  (conv => whnf)
  refine ask_m (fun h => ?_) (fun h => ?_)
  · have h : w = wLimit := of_decide_eq_true h
    (conv => whnf)
    refine ret0 ?_
    exact ret_b (by rw [e1 ⟨4, 4, 1⟩ (by rw [countsOf, if_neg n1, if_pos h]), Bool.eq_iff_iff]; simp [allowB]; omega) rfl
  have n2 : ¬ w = wLimit := of_decide_eq_false h
  (conv => whnf)
  refine ask_m (fun h => ?_) (fun h => ?_)
  · have h : w = wMass := of_decide_eq_true h
    (conv => whnf)
    refine ret0 ?_
    exact ret_b (by rw [e1 ⟨5, 5, 1⟩ (by rw [countsOf, if_neg n1, if_neg n2, if_pos h]), Bool.eq_iff_iff]; simp [allowB]; omega) rfl
  have n3 : ¬ w = wMass := of_decide_eq_false h
  (conv => whnf)
  refine ask_m (fun h => ?_) (fun h => ?_)
  · have h : w = wShape := of_decide_eq_true h
    have e := e1 ⟨5, 26, 3⟩ (by rw [countsOf, if_neg n1, if_neg n2, if_neg n3, if_pos h])
    rw [e]
    (conv => whnf)
    refine ask_m (fun h => ?_) (fun h => ?_)
    · have h1 := of_decide_eq_true h
      (conv => whnf)
      refine ask_m (fun h => ?_) (fun h => ?_)
      · have h2 := of_decide_eq_true h
        have hw : IntKind.i64.wrap (n - 2) = n - 2 := by rw [w64] <;> omega
        have hm : (n - 2).tmod 3 = (n - 2) % 3 := Int.tmod_eq_emod_of_nonneg (by omega)
        (conv => whnf)
        rw [hw]
        refine ⟨(by omega : (3 : Int) ≠ 0), ?_⟩
        (conv => whnf)
        rw [hm]
        (conv => whnf)
        refine ret0 ?_
        exact ret_b (by rw [Bool.eq_iff_iff]; simp [allowB, h1, h2]; omega) rfl
      · have h2 := of_decide_eq_false h
        (conv => whnf)
        refine ret0 ?_
        exact ret_b (by simp [allowB, h2]) rfl
    · have h1 := of_decide_eq_false h
      (conv => whnf)
      refine ret0 ?_
      exact ret_b (by simp [allowB]; intro h; exact absurd h h1) rfl
  have n4 : ¬ w = wShape := of_decide_eq_false h
  (conv => whnf)
  refine ask_m (fun h => ?_) (fun h => ?_)
  · have h : w = wSkip := of_decide_eq_true h
    (conv => whnf)
    refine ret0 ?_
    exact ret_b (by rw [e1 ⟨2, 2, 1⟩ (by rw [countsOf, if_neg n1, if_neg n2, if_neg n3, if_neg n4, if_pos h]), Bool.eq_iff_iff]; simp [allowB]; omega) rfl
  have n5 : ¬ w = wSkip := of_decide_eq_false h
  (conv => whnf)
  refine ret0 ?_
  exact ret_b (by rw [argsB, countsOf, if_neg n1, if_neg n2, if_neg n3, if_neg n4, if_neg n5]) rfl
end Go.Proofs.Ytgnblfojpcjgmaa

/- Words of a description: the automaton, and token.Split. -/
namespace Go.Proofs.Ytgnblfojpcjgmaa
open Eng
set_option maxRecDepth 10000
attribute [local irreducible] FnOk loopW idxF retX arrF

structure Word where
  text : ByteArray
  line : Int
  col : Int
def encW (w : Word) : List DV := [.str w.text, .int .i64 w.line, .int .i64 w.col]
abbrev dWs (l : List Word) : DV := .lst 3 (l.map encW)
abbrev bWs (l : List Word) : Box := .rows Y.Word 3 (l.map encW)
def wordB (c : Int) : Bool := decide (33 ≤ c) && decide (c ≤ 126) && !decide (c = 35)
structure SS where
  line : Int
  bgn : Int
  com : Bool
  ws : Int
  words : List Word
  bad : Bool
/-- the words, a word that is being read ended at i -/
def fin (s : ByteArray) (st : SS) (i : Nat) : List Word := if 0 ≤ st.ws then st.words ++ [⟨s.extract st.ws.toNat i, st.line, st.ws - st.bgn + 1⟩] else st.words
def stepS (s : ByteArray) (st : SS) (i : Nat) : SS :=
  if st.bad then st
  else if byteAt s i = 10 then ⟨st.line + 1, i + 1, false, -1, fin s st i, false⟩
  else if st.com then st
  else if byteAt s i = 32 ∨ byteAt s i = 9 then ⟨st.line, st.bgn, false, -1, fin s st i, false⟩
  else if byteAt s i = 35 then ⟨st.line, st.bgn, true, -1, fin s st i, false⟩
  else if wordB (byteAt s i) = false then ⟨st.line, st.bgn, false, st.ws, st.words, true⟩
  else if st.ws < 0 then ⟨st.line, st.bgn, false, i, st.words, false⟩
  else st
def autoAt (s : ByteArray) (k : Nat) : SS := (List.range k).foldl (stepS s) ⟨1, 0, false, -1, [], false⟩
theorem auto_succ (s : ByteArray) (k : Nat) : autoAt s (k + 1) = stepS s (autoAt s k) k := by
  unfold autoAt; rw [List.range_succ, List.foldl_append]; rfl
theorem auto_bad {s : ByteArray} {k : Nat} (h : (autoAt s k).bad = true) : ∀ d, autoAt s (k + d) = autoAt s k
  | 0 => rfl
  | d + 1 => by rw [← Nat.add_assoc, auto_succ, auto_bad h d, stepS, if_pos h]
structure Inv (st : SS) (k : Nat) : Prop where
  line1 : 1 ≤ st.line
  line2 : st.line ≤ k + 1
  bgn0 : 0 ≤ st.bgn
  bgn1 : st.bgn ≤ k
  ws0 : -1 ≤ st.ws
  ws1 : st.ws < k
  wsb : 0 ≤ st.ws → st.bgn ≤ st.ws
  len : st.words.length ≤ k
  com : st.com = true → st.ws = -1
theorem fin_len (s : ByteArray) (st : SS) (i : Nat) : (fin s st i).length ≤ st.words.length + 1 := by
  unfold fin; split <;> simp
theorem auto_inv (s : ByteArray) (k : Nat) : Inv (autoAt s k) k := by
  induction k with
  | zero => show Inv ⟨1, 0, false, -1, [], false⟩ 0; exact ⟨by decide, by decide, by decide, by decide, by decide, by decide, by decide, by decide, by decide⟩
  | succ k ih =>
    rw [auto_succ]
    have hf := fin_len s (autoAt s k) k
    obtain ⟨h1, h2, h3, h4, h5, h6, h7, h8, h9⟩ := ih
    generalize autoAt s k = st at *
    unfold stepS
    repeat' split
    all_goals first
      | exact ⟨by omega, by omega, by omega, by omega, by omega, by omega, by omega, by omega, h9⟩
      | exact ⟨by simp only; omega, by simp only; omega, by simp only; omega, by simp only; omega, by simp only; omega, by simp only; omega, by simp only; omega, by simp only; omega, by simp⟩
/-- what Split answers: the words, the error and its line -/
def splitOf (s : ByteArray) : List Word × Int × Int :=
  if 16384 < s.size then ([], 601, 0)
  else if (autoAt s s.size).bad then ([], 601, (autoAt s s.size).line)
  else (fin s (autoAt s s.size) s.size, 0, 0)
theorem wordB_low {c : Int} (h : wordB c = true) : c < 128 := by
  simp [wordB] at h; omega
theorem token_isWord (c : Int) : FnOk Try.prog F.token_isWord [Ru c] [] 0 (Bo (wordB c)) [] 0 := by
  refine fnOk tab mix G.token_isWord rfl rfl (by kernel_rfl) rfl rfl ?_
  repeat' ((conv => whnf); first | refine ask_m (fun h => ?_) (fun h => ?_) | refine ret0 ?_)
  all_goals exact ret_b (by by_cases h35 : c = 35 <;> first | (simp_all [wordB]; done) | (simp_all [wordB]; omega)) rfl
abbrev vI (n : Int) : Box := .vars Y.int [.dv (.int .i64 n)]
theorem token_Split_1 (s : ByteArray) (e : Nat) (st : SS) (he : e ≤ s.size) (hs : s.size ≤ 16384) (hi : Inv st e) : FnOk Try.prog F.token_Split_1 [I e, .one (.vptr 0 0), .one (.vptr 1 0), .one (.vptr 2 0), .one (.vptr 3 0), .one (.vptr 4 0)]
    [(0, vI st.ws), (1, .vars Y.s_Word [.row 5]), (2, .vars Y.string [.dv (.str s)]), (3, vI st.line), (4, vI st.bgn), (5, bWs st.words)] 6 (.tup [])
    [(0, vI (-1)), (1, .vars Y.s_Word [.row 6]), (2, .vars Y.string [.dv (.str s)]), (3, vI st.line), (4, vI st.bgn), (6, bWs (fin s st e))] 7 := by
  refine fnOk tab mix G.token_Split_1 rfl rfl (by kernel_rfl) rfl rfl ?_
  (conv => whnf)
  obtain ⟨h1, h2, h3, h4, h5, h6, h7, h8, h9⟩ := hi
  refine ask_m (fun h => ?_) (fun h => ?_)
  · have h : 0 ≤ st.ws := by simpa using h
    have hf : fin s st e = st.words ++ [⟨s.extract st.ws.toNat e, st.line, st.ws - st.bgn + 1⟩] := by rw [fin, if_pos h]
    (conv => whnf)
    refine ⟨⟨by omega, by omega, by omega⟩, ?_⟩
    (conv => whnf)
    rw [w64 (x := st.ws - st.bgn) (by omega) (by omega), w64 (x := st.ws - st.bgn + 1) (by omega) (by omega), Int.toNat_natCast]
    refine ⟨⟨by simp; omega, by simp; omega⟩, ?_⟩
    (conv => whnf)
    (conv => whnf)
    refine ret0 ?_
    refine ⟨[(6, 7)], ⟨rfl, trivial⟩, ⟨rfl, rfl, rfl, rfl, rfl, ?_, trivial⟩⟩
    rw [hf]
    show Box.rows Y.Word 3 _ = Box.rows Y.Word 3 _
    rw [List.map_append]; rfl
  · have h : ¬ 0 ≤ st.ws := by simpa using h
    have hf : fin s st e = st.words := by rw [fin, if_neg h]
    (conv => whnf)
    refine ret0 ?_
    rw [hf]
    exact ⟨[(6, 5)], ⟨rfl, trivial⟩, ⟨rfl, rfl, rfl, rfl, rfl, rfl, trivial⟩⟩
theorem dec_low {s : ByteArray} {i : Nat} (h : i < s.size) (hl : byteAt s i < 128) : Utf8.decode s i = ((byteAt s i).toNat, 1) := by
  have hb := byteAt_get h
  rw [decode_ascii s i h (by omega), hb]; rfl
theorem dec_high {s : ByteArray} {i : Nat} (h : i < s.size) (hl : 128 ≤ byteAt s i) : 128 ≤ (Utf8.decode s i).1 ∧ 1 ≤ (Utf8.decode s i).2 := by
  have hb := byteAt_get h
  exact decode_high s i h (by omega)
theorem get_byte {s : ByteArray} {i : Nat} (h : i < s.size) : ((s.get! i).toNat : Int) = byteAt s i := by
  have := get_at s i h
  rw [Nat.add_zero] at this
  rw [byteAt_get h, this]
/-- the bytes of a sign of several bytes are high -/
theorem dec_bytes {s : ByteArray} {i d : Nat} (h : i < s.size) (hd : d < (Utf8.decode s i).2) : i + d < s.size ∧ (1 ≤ d → 128 ≤ byteAt s (i + d)) := by
  have key : ∀ k, (decide (i + k < s.size) && (s.get! (i + k)).toNat / 64 == 2) = true → i + k < s.size ∧ (1 ≤ k → 128 ≤ byteAt s (i + k)) := fun k hk => by
    rw [Bool.and_eq_true] at hk
    have h1 : i + k < s.size := of_decide_eq_true hk.1
    have h2 : (s.get! (i + k)).toNat / 64 = 2 := by simpa using hk.2
    exact ⟨h1, fun _ => by rw [← get_byte h1]; omega⟩
  have k0 : i + 0 < s.size ∧ (1 ≤ 0 → 128 ≤ byteAt s (i + 0)) := ⟨h, fun h => by omega⟩
  simp only [Utf8.decode] at hd
  split at hd
  · simp only at hd; obtain rfl : d = 0 := by omega
    exact k0
  split at hd
  · rename_i hc
    rw [Bool.and_eq_true] at hc
    have hd : d < 2 := by split at hd <;> simp only at hd <;> omega
    rcases (show d = 0 ∨ d = 1 by omega) with rfl | rfl
    · exact k0
    · exact key 1 hc.2
  split at hd
  · rename_i hc
    rw [Bool.and_eq_true, Bool.and_eq_true] at hc
    have hd : d < 3 := by split at hd <;> simp only at hd <;> omega
    rcases (show d = 0 ∨ d = 1 ∨ d = 2 by omega) with rfl | rfl | rfl
    · exact k0
    · exact key 1 hc.1.2
    · exact key 2 hc.2
  split at hd
  · rename_i hc
    rw [Bool.and_eq_true, Bool.and_eq_true, Bool.and_eq_true] at hc
    have hd : d < 4 := by split at hd <;> simp only at hd <;> omega
    rcases (show d = 0 ∨ d = 1 ∨ d = 2 ∨ d = 3 by omega) with rfl | rfl | rfl | rfl
    · exact k0
    · exact key 1 hc.1.1.2
    · exact key 2 hc.1.2
    · exact key 3 hc.2
  · simp only at hd; obtain rfl : d = 0 := by omega
    exact k0
/-- a sign in a comment that ends no line changes nothing -/
theorem auto_skip {s : ByteArray} {k : Nat} (hk : k < s.size) (hb : (autoAt s k).bad = false) (hc : (autoAt s k).com = true) (h10 : byteAt s k ≠ 10) : ∀ d, d ≤ (Utf8.decode s k).2 → 1 ≤ (Utf8.decode s k).2 → autoAt s (k + d) = autoAt s k
  | 0, _, _ => rfl
  | d + 1, hd, h1 => by
    have ih := auto_skip hk hb hc h10 d (by omega) h1
    have hne : byteAt s (k + d) ≠ 10 := by
      rcases Nat.eq_zero_or_pos d with rfl | hp
      · exact h10
      · have := (dec_bytes hk (d := d) (by omega)).2 hp
        omega
    rw [← Nat.add_assoc, auto_succ, ih, stepS, if_neg (by rw [hb]; simp), if_neg hne, if_pos hc]
theorem dec_end {s : ByteArray} {k : Nat} (hk : k < s.size) (h1 : 1 ≤ (Utf8.decode s k).2) : k + (Utf8.decode s k).2 ≤ s.size := by
  have := (dec_bytes hk (d := (Utf8.decode s k).2 - 1) (by omega)).1
  omega
end Go.Proofs.Ytgnblfojpcjgmaa

/- token.Split. -/
namespace Go.Proofs.Ytgnblfojpcjgmaa
open Eng
set_option maxRecDepth 10000
attribute [local irreducible] FnOk loopW idxF retX arrF

abbrev vE (e l : Int) : Box := .vars Y.SourceError [.dv (.int .i64 e), .dv (.int .i64 l)]
abbrev SpR (r : List Word × Int × Int) : SV := .tup [(false, [.dv (dWs r.1)]), (true, [.dv (.int .i64 r.2.1), .dv (.int .i64 r.2.2)])]
abbrev FnS : SV := .one (.fn F.token_Split_1 [(5, 0), (2, 0), (0, 0), (3, 0), (4, 0)])
theorem token_Split (s : ByteArray) : FnOk Try.prog F.token_Split [Tx s] [] 0 (SpR (splitOf s)) [] 0 := by
  refine fnOk tab mix G.token_Split rfl rfl (by kernel_rfl) rfl rfl ?_
  (conv => whnf)
  refine ask_m (fun h => ?_) (fun h => ?_)
  · have h : 16384 < s.size := by simp at h; omega
    have e : splitOf s = ([], 601, 0) := by rw [splitOf, if_pos h]
    rw [e]
    (conv => whnf)
    refine retO [.own 2 Y.Word 3, .frz 2] ?_
    (conv => whnf)
    exact ⟨[], ⟨rfl, trivial⟩, trivial⟩
  have hs : ¬ 16384 < s.size := by simp at h; omega
  have hsp : splitOf s = if (autoAt s s.size).bad then ([], 601, (autoAt s s.size).line) else (fin s (autoAt s s.size) s.size, 0, 0) := by rw [splitOf, if_neg hs]
  (conv => whnf)
  refine loop_intro (fun p : Nat × SS => ⟨[(1, .one (.vptr 0 0)), (3, .one (.vptr 1 0)), (4, .one (.vptr 2 0)), (5, .one (.vptr 3 0)), (6, .one (.vptr 4 0)), (7, Bo p.2.com), (8, .one (.vptr 5 0)), (9, FnS), (18, .one (.vptr 6 0))],
    [(0, .vars Y.string [.dv (.str s)]), (1, vE 0 0), (2, .vars Y.s_Word [.row 7]), (3, vI p.2.line), (4, vI p.2.bgn), (5, vI p.2.ws), (6, .iter s p.1), (7, bWs p.2.words)], 8⟩)
    (fun p => p.1 ≤ s.size ∧ autoAt s p.1 = p.2 ∧ p.2.bad = false) (fun p => s.size - p.1) [.ownC 2 0 Y.Word 3] (0, ⟨1, 0, false, -1, [], false⟩) [] ⟨Nat.zero_le _, rfl, rfl⟩ ⟨⟨rfl, rfl, rfl, rfl, rfl, rfl, rfl, rfl, rfl, trivial⟩, ⟨rfl, rfl, rfl, rfl, rfl, rfl, rfl, rfl, trivial⟩⟩ ?_
  rintro ⟨k, st⟩ ⟨hk, hst, hbad⟩
  simp only at hk hst hbad
  have hi := auto_inv s k
  rw [hst] at hi
  (conv => whnf)
  refine ask_m (fun h => ?_) (fun h => ?_)
  · have hlt : k < s.size := of_decide_eq_true h
    have hstep := auto_succ s k
    have hskip := auto_skip (s := s) (k := k) hlt (by rw [hst]; exact hbad)
    have hend := dec_end (s := s) (k := k) hlt
    rw [hst] at hstep hskip
    rw [stepS, if_neg (by rw [hbad]; simp)] at hstep
    have F : (byteAt s k = ((Utf8.decode s k).1 : Int) ∧ (Utf8.decode s k).2 = 1) ∨ (128 ≤ byteAt s k ∧ 128 ≤ (Utf8.decode s k).1) := by
      by_cases hb : byteAt s k < 128
      · rw [dec_low hlt hb]; have := byteAt_bd s k; exact .inl ⟨by simp only; omega, rfl⟩
      · exact .inr ⟨by omega, (dec_high hlt (by omega)).1⟩
    have hw1 : 1 ≤ (Utf8.decode s k).2 := by
      by_cases hb : byteAt s k < 128
      · rw [dec_low hlt hb]; exact Nat.le_refl _
      · exact (dec_high hlt (by omega)).2
    have hkk : IntKind.i64.wrap ((k : Int) + 1) = ((k + 1 : Nat) : Int) := by rw [w64] <;> omega
    have hll : IntKind.i64.wrap (st.line + 1) = st.line + 1 := by rw [w64] <;> (have := hi.line1; have := hi.line2; omega)
    generalize ((Utf8.decode s k).1 : Nat) = c at *
    generalize (Utf8.decode s k).2 = w at *
    (conv => whnf)
    refine ask_m (fun h10 => ?_) (fun h10 => ?_)
    · have h10 : (c : Int) = 10 := by simpa using h10
      obtain ⟨hb, rfl⟩ : byteAt s k = 10 ∧ w = 1 := by omega
      rw [if_pos hb] at hstep
      (conv => whnf)
      refine call_i (token_Split_1 s k st hk (by omega) hi) ?_
      (conv => whnf)
      rw [hll, hkk]
      refine ⟨(k + 1, ⟨st.line + 1, k + 1, false, -1, fin s st k, false⟩), [(7, 8)], ⟨hlt, hstep, rfl⟩, by simp only; omega, ⟨⟨rfl, rfl, rfl, rfl, rfl, rfl, rfl, rfl, rfl, trivial⟩, ⟨rfl, rfl, rfl, rfl, rfl, rfl, rfl, rfl, trivial⟩⟩⟩
    have h10 : ¬ (c : Int) = 10 := by simpa using h10
    have hb10 : ¬ byteAt s k = 10 := by omega
    rw [if_neg hb10] at hstep
    (conv => whnf)
    refine ask_m (fun hcm => ?_) (fun hcm => ?_)
    · have hcm : st.com = true := hcm
      have e := hskip hcm hb10 w (Nat.le_refl _) hw1
      (conv => whnf)
      refine ⟨(k + w, st), [], ⟨hend hw1, e, hbad⟩, by simp only; omega, ⟨⟨rfl, rfl, rfl, rfl, rfl, rfl, rfl, rfl, rfl, trivial⟩, ⟨rfl, rfl, rfl, rfl, rfl, rfl, rfl, rfl, trivial⟩⟩⟩
    have hcm : st.com = false := hcm
    rw [if_neg (by rw [hcm]; simp)] at hstep
    (conv => whnf)
    have sp : ((c : Int) = 32 ∨ (c : Int) = 9) → w = 1 ∧ autoAt s (k + 1) = ⟨st.line, st.bgn, false, -1, fin s st k, false⟩ := fun hc => by
      have hb : byteAt s k = 32 ∨ byteAt s k = 9 := by omega
      rw [if_pos hb] at hstep
      exact ⟨by omega, hstep⟩
    refine ask_m (fun h32 => ?_) (fun h32 => ?_)
    · obtain ⟨rfl, e⟩ := sp (.inl (by simpa using h32))
      (conv => whnf)
      refine ask_mt h32 ?_
      (conv => whnf)
      refine call_i (token_Split_1 s k st hk (by omega) hi) ?_
      (conv => whnf)
      refine ⟨(k + 1, ⟨st.line, st.bgn, false, -1, fin s st k, false⟩), [(7, 8)], ⟨hlt, e, rfl⟩, by simp only; omega, ⟨⟨rfl, rfl, rfl, rfl, rfl, eqB hcm, rfl, rfl, rfl, trivial⟩, ⟨rfl, rfl, rfl, rfl, rfl, rfl, rfl, rfl, trivial⟩⟩⟩
    have h32 : ¬ (c : Int) = 32 := by simpa using h32
    (conv => whnf)
    refine ask_m (fun h9 => ?_) (fun h9 => ?_)
    · obtain ⟨rfl, e⟩ := sp (.inr (by simpa using h9))
      (conv => whnf)
      refine call_i (token_Split_1 s k st hk (by omega) hi) ?_
      (conv => whnf)
      refine ⟨(k + 1, ⟨st.line, st.bgn, false, -1, fin s st k, false⟩), [(7, 8)], ⟨hlt, e, rfl⟩, by simp only; omega, ⟨⟨rfl, rfl, rfl, rfl, rfl, eqB hcm, rfl, rfl, rfl, trivial⟩, ⟨rfl, rfl, rfl, rfl, rfl, rfl, rfl, rfl, trivial⟩⟩⟩
    have h9 : ¬ (c : Int) = 9 := by simpa using h9
    rw [if_neg (by omega)] at hstep
    (conv => whnf)
    refine ask_m (fun h35 => ?_) (fun h35 => ?_)
    · have h35 : (c : Int) = 35 := by simpa using h35
      obtain ⟨hb, rfl⟩ : byteAt s k = 35 ∧ w = 1 := by omega
      rw [if_pos hb] at hstep
      (conv => whnf)
      refine call_i (token_Split_1 s k st hk (by omega) hi) ?_
      (conv => whnf)
      refine ⟨(k + 1, ⟨st.line, st.bgn, true, -1, fin s st k, false⟩), [(7, 8)], ⟨hlt, hstep, rfl⟩, by simp only; omega, ⟨⟨rfl, rfl, rfl, rfl, rfl, rfl, rfl, rfl, rfl, trivial⟩, ⟨rfl, rfl, rfl, rfl, rfl, rfl, rfl, rfl, trivial⟩⟩⟩
    have h35 : ¬ (c : Int) = 35 := by simpa using h35
    rw [if_neg (by omega)] at hstep
    (conv => whnf)
    refine call_i (token_isWord c) ?_
    (conv => whnf)
    refine ask_m (fun hwd => ?_) (fun hwd => ?_)
    · have hwd : wordB c = false := by simpa using hwd
      have hb : wordB (byteAt s k) = false := by
        rcases hq : wordB (byteAt s k) with _ | _
        · rfl
        · have := wordB_low hq
          rw [show byteAt s k = (c : Int) by omega] at hq
          rw [hq] at hwd; contradiction
      rw [if_pos hb] at hstep
      have hB : (autoAt s (k + 1)).bad = true := by rw [hstep]
      have := auto_bad hB (s.size - (k + 1))
      rw [show k + 1 + (s.size - (k + 1)) = s.size by omega] at this
      rw [hsp, this, if_pos hB, hstep]
      (conv => whnf)
      refine retO [.own 2 Y.Word 3, .frz 8] ?_
      (conv => whnf)
      exact ⟨[], ⟨rfl, trivial⟩, trivial⟩
    have hwd : wordB c = true := by simpa using hwd
    have hc := wordB_low hwd
    obtain ⟨hb, rfl⟩ : byteAt s k = c ∧ w = 1 := by omega
    rw [if_neg (by rw [hb, hwd]; simp)] at hstep
    (conv => whnf)
    refine ask_m (fun hws => ?_) (fun hws => ?_)
    · have hws : st.ws < 0 := of_decide_eq_true hws
      rw [if_pos hws] at hstep
      (conv => whnf)
      refine ⟨(k + 1, ⟨st.line, st.bgn, false, k, st.words, false⟩), [], ⟨hlt, hstep, rfl⟩, by simp only; omega, ⟨⟨rfl, rfl, rfl, rfl, rfl, eqB hcm, rfl, rfl, rfl, trivial⟩, ⟨rfl, rfl, rfl, rfl, rfl, rfl, rfl, rfl, trivial⟩⟩⟩
    · have hws : ¬ st.ws < 0 := of_decide_eq_false hws
      rw [if_neg hws] at hstep
      (conv => whnf)
      refine ⟨(k + 1, st), [], ⟨hlt, hstep, hbad⟩, by simp only; omega, ⟨⟨rfl, rfl, rfl, rfl, rfl, rfl, rfl, rfl, rfl, trivial⟩, ⟨rfl, rfl, rfl, rfl, rfl, rfl, rfl, rfl, trivial⟩⟩⟩
  · have hk : k = s.size := by have := of_decide_eq_false h; omega
    subst hk
    rw [hst, if_neg (by rw [hbad]; simp)] at hsp
    (conv => whnf)
    refine call_i (token_Split_1 s s.size st (Nat.le_refl _) (by omega) hi) ?_
    (conv => whnf)
    rw [hsp]
    (conv => whnf)
    refine retO [.frz 8] ?_
    (conv => whnf)
    exact ⟨[], ⟨rfl, trivial⟩, trivial⟩
end Go.Proofs.Ytgnblfojpcjgmaa

/- law7: statements, syntax.group. -/
namespace Go.Proofs.Ytgnblfojpcjgmaa
open Eng
set_option maxRecDepth 10000
attribute [local irreducible] FnOk loopW idxF retX arrF findF

/-- one more word -/
def gstep (acc : List Stmt × Option Stmt) (w : Word) : List Stmt × Option Stmt := match acc.2 with
  | none => (acc.1, some ⟨w.line, w.text, []⟩)
  | some s => if s.line = w.line then (acc.1, some ⟨s.line, s.word, s.args ++ [w.text]⟩) else (acc.1 ++ [s], some ⟨w.line, w.text, []⟩)
def gAll (ws : List Word) : List Stmt × Option Stmt := ws.foldl gstep ([], none)
def groupOf (ws : List Word) : List Stmt := (gAll ws).1 ++ (gAll ws).2.toList
/-- the row of statements and the row of the last one's arguments -/
def gBoxes (rs : List Stmt) : Option Stmt → List (Nat × Box)
  | none => [(0, .rows Y.Statement 3 (rs.map encSt))]
  | some ⟨ln, wd, []⟩ => [(0, .rows Y.Statement 3 (rs.map encSt ++ [[.int .i64 ln, .str wd, .nul 1]]))]
  | some ⟨ln, wd, a :: r⟩ => [(0, .orow Y.Statement 3 (rs.map encSt) [.dv (.int .i64 ln), .dv (.str wd), .row 1]), (1, .rows Y.string 1 ((a :: r).map encA))]
theorem gAll_len (ws : List Word) : ∀ (acc : List Stmt × Option Stmt) (n : Nat), acc.1.length ≤ n ∧ (∀ s, acc.2 = some s → s.args.length ≤ n) → (ws.foldl gstep acc).1.length ≤ n + ws.length ∧ ∀ s, (ws.foldl gstep acc).2 = some s → s.args.length ≤ n + ws.length := by
  induction ws with
  | nil => intro acc n h; exact h
  | cons w ws ih =>
    intro acc n h
    have := ih (gstep acc w) (n + 1) (by
      obtain ⟨rs, o⟩ := acc
      obtain ⟨h1, h2⟩ := h
      cases o with
      | none =>
        refine ⟨by simp only [gstep]; simp only at h1; omega, fun s hs => ?_⟩
        simp only [gstep, Option.some.injEq] at hs
        subst hs; simp
      | some s0 =>
        have h3 := h2 s0 rfl
        simp only [gstep]
        split
        · refine ⟨by simp only at h1 ⊢; omega, fun s hs => ?_⟩
          simp only [Option.some.injEq] at hs
          subst hs; simp; omega
        · refine ⟨by simp at h1 ⊢; omega, fun s hs => ?_⟩
          simp only [Option.some.injEq] at hs
          subst hs; simp)
    rw [List.foldl_cons, List.length_cons]
    rw [show n + (ws.length + 1) = n + 1 + ws.length by omega]
    exact this
theorem eqD3 {a b : List (List DV)} (h : a = b) : SV.one (.dv (.lst 3 a)) = SV.one (.dv (.lst 3 b)) := by rw [h]
theorem syntax_group (ws : List Word) (hl : ws.length ≤ 1099511627776) : FnOk Try.prog F.syntax_group [.one (.dv (dWs ws))] [] 0 (.one (.dv (dSts (groupOf ws)))) [] 0 := by
  refine fnOkG [(7, [.ask]), (8, [.ask]), (10, [.ask]), (1000034, [.nul 33 2])] tab mix G.syntax_group rfl rfl (by kernel_rfl) rfl rfl ?_
  (conv => whnf)
  refine loop_intro (fun p : Nat × List Stmt × Option Stmt => ⟨[(3, .one (.row 0)), (7, .one (.dv (dWs ws))), (8, I ws.length), (9, I p.1)], gBoxes p.2.1 p.2.2, 2⟩) (fun p => p.1 ≤ ws.length ∧ gAll (ws.take p.1) = (p.2.1, p.2.2) ∧ (p.2.2 = none → p.2.1 = [])) (fun p => ws.length - p.1) [.own 3 Y.Statement 3] (0, [], none) [] ⟨Nat.zero_le _, rfl, fun _ => rfl⟩ ⟨⟨rfl, rfl, eqI (by simp), rfl, trivial⟩, ⟨rfl, trivial⟩⟩ ?_
  rintro ⟨k, rs, o⟩ ⟨hk, hg, hn⟩
  simp only at hk hg hn
  have hlen := gAll_len (ws.take k) ([], none) 0 ⟨Nat.zero_le _, fun s h => by cases h⟩
  rw [← gAll, hg, Nat.zero_add, List.length_take] at hlen
  simp only at hlen
  by_cases hlt : k < ws.length
  · obtain ⟨w, hw⟩ : ∃ w, ws[k]? = some w := ⟨_, List.getElem?_eq_getElem hlt⟩
    have hkk : IntKind.i64.wrap ((k : Int) + 1) = ((k + 1 : Nat) : Int) := by rw [w64] <;> omega
    have hstep : gAll (ws.take (k + 1)) = gstep (rs, o) w := by
      rw [List.take_add_one, hw, gAll, List.foldl_append, ← gAll, hg]; rfl
    match o, hg, hn, hstep, hlen with
    | none, hg, hn, hstep, hlen =>
      have hn := hn rfl
      subst hn
      (conv => whnf)
      refine ask_mt (by simpa using hlt) ?_
      (conv => whnf)
      refine idx_and (by omega) (by simpa using hw) ?_
      (conv => whnf)
      refine ⟨[], ?_⟩
      (conv => whnf)
      refine ⟨⟨by simp, by simp⟩, ?_⟩
      (conv => whnf)
      refine ⟨(k + 1, [], some ⟨w.line, w.text, []⟩), [(0, 4)], ⟨hlt, hstep, fun h => by cases h⟩, by simp only; omega, ⟨⟨rfl, rfl, rfl, eqI hkk, trivial⟩, ⟨rfl, trivial⟩⟩⟩
    | some ⟨ln, wd, []⟩, hg, hn, hstep, hlen =>
      (conv => whnf)
      refine ask_mt (by simpa using hlt) ?_
      (conv => whnf)
      refine idx_and (by omega) (by simpa using hw) ?_
      have hla : IntKind.i64.wrap (((rs.map encSt ++ [[DV.int IntKind.i64 ln, DV.str wd, DV.nul 1]]).length : Int) - 1) = (rs.length : Int) := by
        have := hlen.1
        rw [w64] <;> simp <;> omega
      (conv => whnf)
      refine ask_mf (by rw [hla]; simp) ?_
      (conv => whnf)
      rw [hla]
      refine ⟨⟨by omega, by simp; omega⟩, ?_⟩
      (conv => whnf)
      rw [Int.toNat_natCast]
      refine idx_at (r := [DV.int IntKind.i64 ln, DV.str wd, DV.nul 1]) (by simp) ?_
      (conv => whnf)
      refine ask_m (fun h => ?_) (fun h => ?_)
      · (conv => whnf)
        have hne : ¬ ln = w.line := by simpa using h
        refine ⟨[.opn 0, .wkn 0 2, .cls 0], ?_⟩
        (conv => whnf)
        refine ⟨_, _, rfl, ?_⟩
        (conv => whnf)
        refine ⟨⟨by simp; omega, by simp; omega⟩, ?_⟩
        (conv => whnf)
        refine ⟨(k + 1, rs ++ [⟨ln, wd, []⟩], some ⟨w.line, w.text, []⟩), [(0, 4)], ⟨hlt, by rw [hstep, gstep]; simp only [if_neg hne], fun h => by cases h⟩, by simp only; omega, ⟨⟨rfl, rfl, rfl, eqI hkk, trivial⟩, ⟨?_, trivial⟩⟩⟩
        exact congrArg (Box.rows Y.Statement 3) (show rs.map encSt ++ [[.int .i64 ln, .str wd, .lst 1 []]] ++ [[.int .i64 w.line, .str w.text, .nul 1]] = (rs ++ [Stmt.mk ln wd []]).map encSt ++ [[.int .i64 w.line, .str w.text, .nul 1]] from by rw [List.map_append]; rfl)
      · (conv => whnf)
        have he : ln = w.line := by simpa using h
        refine ⟨[.opn 0, .ownL 0 2 9 1], ?_⟩
        (conv => whnf)
        refine ⟨_, _, rfl, ?_⟩
        (conv => whnf)
        refine ⟨⟨by omega, by simp; omega⟩, ?_⟩
        (conv => whnf)
        refine ⟨by simp, ?_⟩
        (conv => whnf)
        refine ⟨⟨by simp, by simp⟩, ?_⟩
        (conv => whnf)
        refine ⟨⟨by omega, by simp; omega⟩, ?_⟩
        (conv => whnf)
        refine ⟨by simp, ?_⟩
        (conv => whnf)
        refine ⟨(k + 1, rs, some ⟨ln, wd, [w.text]⟩), [(0, 0), (1, 5)], ⟨hlt, by rw [hstep, gstep]; simp only [if_pos he]; rfl, fun h => by cases h⟩, by simp only; omega, ⟨⟨rfl, rfl, rfl, eqI hkk, trivial⟩, ⟨rfl, rfl, trivial⟩⟩⟩
    | some ⟨ln, wd, a :: r⟩, hg, hn, hstep, hlen =>
      have hra := hlen.2 _ rfl
      simp only [List.length_cons] at hra
      (conv => whnf)
      refine ask_mt (by simpa using hlt) ?_
      (conv => whnf)
      refine idx_and (by omega) (by simpa using hw) ?_
      have hla : IntKind.i64.wrap (((rs.map encSt).length + 1 : Nat) - 1 : Int) = (rs.length : Int) := by
        have := hlen.1
        rw [w64] <;> simp <;> omega
      (conv => whnf)
      refine ask_mf (by rw [hla]; simp) ?_
      (conv => whnf)
      rw [hla]
      refine ⟨⟨by omega, by simp; omega⟩, ?_⟩
      (conv => whnf)
      refine ⟨by simp, ?_⟩
      (conv => whnf)
      refine ask_m (fun h => ?_) (fun h => ?_)
      · (conv => whnf)
        have hne : ¬ ln = w.line := by simpa using h
        refine ⟨[.frz 1, .cls 0], ?_⟩
        (conv => whnf)
        refine ⟨⟨by simp; omega, by simp; omega⟩, ?_⟩
        (conv => whnf)
        refine ⟨(k + 1, rs ++ [⟨ln, wd, a :: r⟩], some ⟨w.line, w.text, []⟩), [(0, 4)], ⟨hlt, by rw [hstep, gstep]; simp only [if_neg hne], fun h => by cases h⟩, by simp only; omega, ⟨⟨rfl, rfl, rfl, eqI hkk, trivial⟩, ⟨?_, trivial⟩⟩⟩
        exact congrArg (Box.rows Y.Statement 3) (show rs.map encSt ++ [[.int .i64 ln, .str wd, .lst 1 ((a :: r).map encA)]] ++ [[.int .i64 w.line, .str w.text, .nul 1]] = (rs ++ [Stmt.mk ln wd (a :: r)]).map encSt ++ [[.int .i64 w.line, .str w.text, .nul 1]] from by rw [List.map_append]; rfl)
      · (conv => whnf)
        have he : ln = w.line := by simpa using h
        refine ⟨[], ?_⟩
        (conv => whnf)
        refine ⟨⟨by omega, by simp; omega⟩, ?_⟩
        (conv => whnf)
        refine ⟨by simp, ?_⟩
        (conv => whnf)
        refine ⟨⟨by simp; omega, by simp; omega⟩, ?_⟩
        (conv => whnf)
        refine ⟨⟨by omega, by simp; omega⟩, ?_⟩
        (conv => whnf)
        refine ⟨by simp, ?_⟩
        (conv => whnf)
        refine ⟨(k + 1, rs, some ⟨ln, wd, a :: (r ++ [w.text])⟩), [(0, 0), (1, 4)], ⟨hlt, by rw [hstep, gstep]; simp only [if_pos he]; rfl, fun h => by cases h⟩, by simp only; omega, ⟨⟨rfl, rfl, rfl, eqI hkk, trivial⟩, ⟨rfl, ?_, trivial⟩⟩⟩
        exact congrArg (Box.rows Y.string 1) (show (a :: r).map encA ++ [[.str w.text]] = (a :: (r ++ [w.text])).map encA from by simp [encA])
  · have hk : k = ws.length := by omega
    subst hk
    rw [List.take_length] at hg
    match o, hg, hn, hlen with
    | none, hg, hn, hlen =>
      have hn := hn rfl
      subst hn
      (conv => whnf)
      refine ask_mf (by simp) ?_
      (conv => whnf)
      refine ⟨[], ?_⟩
      (conv => whnf)
      (conv => whnf)
      refine retO [.frz 0] ?_
      (conv => whnf)
      exact ⟨[], ⟨eqD3 (show [] = (groupOf ws).map encSt by rw [groupOf, hg]; rfl), trivial⟩, trivial⟩
    | some ⟨ln, wd, []⟩, hg, hn, hlen =>
      (conv => whnf)
      refine ask_mf (by simp) ?_
      (conv => whnf)
      refine ⟨[.opn 0, .wkn 0 2, .cls 0], ?_⟩
      (conv => whnf)
      refine ⟨_, _, rfl, ?_⟩
      (conv => whnf)
      refine retO [.frz 0] ?_
      (conv => whnf)
      exact ⟨[], ⟨eqD3 (show rs.map encSt ++ [[.int .i64 ln, .str wd, .lst 1 []]] = (groupOf ws).map encSt by rw [groupOf, hg]; simp [encSt]), trivial⟩, trivial⟩
    | some ⟨ln, wd, a :: r⟩, hg, hn, hlen =>
      (conv => whnf)
      refine ask_mf (by simp) ?_
      (conv => whnf)
      refine ⟨[.frz 1, .cls 0], ?_⟩
      (conv => whnf)
      (conv => whnf)
      refine retO [.frz 0] ?_
      (conv => whnf)
      exact ⟨[], ⟨eqD3 (show rs.map encSt ++ [[.int .i64 ln, .str wd, .lst 1 ((a :: r).map encA)]] = (groupOf ws).map encSt by rw [groupOf, hg]; simp [encSt]), trivial⟩, trivial⟩
end Go.Proofs.Ytgnblfojpcjgmaa

/- law7: check, Parse. -/
namespace Go.Proofs.Ytgnblfojpcjgmaa
open Eng
set_option maxRecDepth 10000
attribute [local irreducible] FnOk loopW idxF retX arrF findF

abbrev St (s : Stmt) : SV := .agg [.dv (.int .i64 s.line), .dv (.str s.word), .dv (.lst 1 (s.args.map encA))]
def checkOf (i : Nat) (s : Stmt) : Int := if 256 ≤ i then 703 else match countsOf s.word with
  | none => 701
  | some c => if allowB c s.args.length then 0 else 702
def firstErr : Nat → List Stmt → Option (Int × Int)
  | _, [] => none
  | i, s :: l => if checkOf i s = 0 then firstErr (i + 1) l else some (checkOf i s, s.line)
def parseOf (src : ByteArray) : List Stmt × Int × Int :=
  if (splitOf src).2.1 ≠ 0 then ([], (splitOf src).2) else match firstErr 0 (groupOf (splitOf src).1) with
    | some e => ([], e)
    | none => (groupOf (splitOf src).1, 0, 0)
abbrev PaR (r : List Stmt × Int × Int) : SV := .tup [(false, [.dv (dSts r.1)]), (true, [.dv (.int .i64 r.2.1), .dv (.int .i64 r.2.2)])]
theorem syntax_check (i : Nat) (s : Stmt) : FnOk Try.prog F.syntax_check [.one (.row 0), I i, St s] [(0, .mp tabE)] 1 (I (checkOf i s)) [(0, .mp tabE)] 1 := by
  refine fnOk tab mix G.syntax_check rfl rfl (by kernel_rfl) rfl rfl ?_
  (conv => whnf)
  refine ⟨Y.string, Y.syntax_counts, .string, ⟨mapT.1, mapT.2, trivial, keysT⟩, ?_⟩
  (conv => whnf)
  refine ⟨zC, ?_⟩
  (conv => whnf)
  cases hc : countsOf s.word with
  | none =>
    refine find_is (r := none) (by rw [find_tab, hc]; rfl) ?_
    (conv => whnf)
    refine ask_m (fun h => ?_) (fun h => ?_)
    · have h : 256 ≤ i := by have := of_decide_eq_true h; omega
      (conv => whnf)
      refine ret0 ?_
      exact ⟨[], ⟨eqI (by rw [checkOf, if_pos h]), trivial⟩, ⟨rfl, trivial⟩⟩
    · have h : ¬ 256 ≤ i := by have := of_decide_eq_false h; omega
      (conv => whnf)
      (conv => whnf)
      refine ret0 ?_
      exact ⟨[], ⟨eqI (by rw [checkOf, if_neg h, hc]), trivial⟩, ⟨rfl, trivial⟩⟩
  | some c =>
    refine find_is (r := some (posOf s.word, (true, encC c))) (by rw [find_tab, hc]; rfl) ?_
    (conv => whnf)
    refine ask_m (fun h => ?_) (fun h => ?_)
    · have h : 256 ≤ i := by have := of_decide_eq_true h; omega
      (conv => whnf)
      refine ret0 ?_
      exact ⟨[], ⟨eqI (by rw [checkOf, if_pos h]), trivial⟩, ⟨rfl, trivial⟩⟩
    · have h : ¬ 256 ≤ i := by have := of_decide_eq_false h; omega
      (conv => whnf)
      refine call_i (syntax_allow c ((s.args.map encA).length) (counts_good hc)) ?_
      (conv => whnf)
      rw [List.length_map]
      cases ha : allowB c s.args.length with
      | true =>
        (conv => whnf)
        refine ret0 ?_
        exact ⟨[], ⟨eqI (by rw [checkOf, if_neg h, hc]; simp only [ha]; rfl), trivial⟩, ⟨rfl, trivial⟩⟩
      | false =>
        (conv => whnf)
        refine ret0 ?_
        exact ⟨[], ⟨eqI (by rw [checkOf, if_neg h, hc]; simp only [ha]; rfl), trivial⟩, ⟨rfl, trivial⟩⟩
theorem firstErr_at {k : Nat} {l : List Stmt} {s : Stmt} (h : l[k]? = some s) : firstErr k (l.drop k) = if checkOf k s = 0 then firstErr (k + 1) (l.drop (k + 1)) else some (checkOf k s, s.line) := by
  rw [drop_cons h, firstErr]
theorem split_len (s : ByteArray) : (splitOf s).1.length ≤ 16385 := by
  unfold splitOf
  repeat' split
  · simp
  · simp
  · have := fin_len s (autoAt s s.size) s.size
    have := (auto_inv s s.size).len
    simp only; omega
theorem group_len (ws : List Word) : (groupOf ws).length ≤ ws.length + 1 := by
  have := gAll_len ws ([], none) 0 ⟨Nat.zero_le _, fun s h => by cases h⟩
  rw [← gAll] at this
  have h2 : (gAll ws).2.toList.length ≤ 1 := by cases (gAll ws).2 <;> simp
  rw [groupOf, List.length_append]; omega
theorem syntax_Parse (src : ByteArray) : FnOk Try.prog F.syntax_Parse [Tx src] [] 0 (PaR (parseOf src)) [] 0 := by
  refine fnOk tab mix G.syntax_Parse rfl rfl (by kernel_rfl) rfl rfl ?_
  (conv => whnf)
  refine call_i (token_Split src) ?_
  (conv => whnf)
  have hsl := split_len src
  refine ask_m (fun h => ?_) (fun h => ?_)
  · have h : (splitOf src).2.1 ≠ 0 := by simpa using h
    have e : parseOf src = ([], (splitOf src).2) := by rw [parseOf, if_pos h]
    rw [e]
    (conv => whnf)
    refine retO [.own 2 Y.Statement 3, .frz 2] ?_
    (conv => whnf)
    exact ⟨[], ⟨rfl, trivial⟩, trivial⟩
  have h0 : ¬ (splitOf src).2.1 ≠ 0 := by simpa using h
  have e0 : parseOf src = match firstErr 0 (groupOf (splitOf src).1) with
    | some e => ([], e)
    | none => (groupOf (splitOf src).1, 0, 0) := by rw [parseOf, if_neg h0]
  (conv => whnf)
  refine call_i (syntax_group (splitOf src).1 (by omega)) ?_
  (conv => whnf)
  refine call_i (syntax_table) ?_
  (conv => whnf)
  have hgl := group_len (splitOf src).1
  generalize groupOf (splitOf src).1 = sts at *
  refine loop_intro (fun k : Nat => ⟨[(2, .one (.nil 3)), (3, .one (.vptr 0 0)), (6, .one (.dv (dSts sts))), (7, .one (.row 1)), (23, .one (.dv (dSts sts))), (24, I sts.length), (25, I k)], [(0, vE 0 0), (1, .mp tabE)], 2⟩) (fun k => k ≤ sts.length ∧ firstErr k (sts.drop k) = firstErr 0 sts) (fun k => sts.length - k) [] 0 [(1, 2)] ⟨Nat.zero_le _, rfl⟩ ⟨⟨rfl, rfl, rfl, rfl, rfl, eqI (by simp), rfl, trivial⟩, ⟨rfl, rfl, trivial⟩⟩ ?_
  rintro k ⟨hk, hf⟩
  (conv => whnf)
  refine ask_m (fun h => ?_) (fun h => ?_)
  · have hlt : k < sts.length := by have := of_decide_eq_true h; omega
    obtain ⟨s, hs⟩ : ∃ s, sts[k]? = some s := ⟨_, List.getElem?_eq_getElem hlt⟩
    have hkk : IntKind.i64.wrap ((k : Int) + 1) = ((k + 1 : Nat) : Int) := by rw [w64] <;> omega
    rw [firstErr_at hs] at hf
    (conv => whnf)
    refine idx_and (by omega) (by simpa using hs) ?_
    (conv => whnf)
    refine call_i (syntax_check k s) ?_
    (conv => whnf)
    refine ask_m (fun h => ?_) (fun h => ?_)
    · have hc : ¬ checkOf k s = 0 := by simpa using h
      rw [if_neg hc] at hf
      rw [← hf] at e0
      simp only at e0
      rw [e0]
      (conv => whnf)
      refine retO [.own 2 Y.Statement 3, .frz 3] ?_
      (conv => whnf)
      exact ⟨[], ⟨rfl, trivial⟩, trivial⟩
    · have hc : checkOf k s = 0 := by simpa using h
      rw [if_pos hc] at hf
      (conv => whnf)
      exact ⟨k + 1, [], ⟨hlt, hf⟩, by omega, ⟨⟨rfl, rfl, rfl, rfl, rfl, rfl, eqI hkk, trivial⟩, ⟨rfl, rfl, trivial⟩⟩⟩
  · have hk : k = sts.length := by have := of_decide_eq_false h; omega
    subst hk
    rw [List.drop_length, firstErr] at hf
    rw [← hf] at e0
    simp only at e0
    rw [e0]
    (conv => whnf)
    refine ret0 ?_
    exact ⟨[], ⟨rfl, trivial⟩, trivial⟩
end Go.Proofs.Ytgnblfojpcjgmaa

/- ref.Split; words alike. -/
namespace Go.Proofs.Ytgnblfojpcjgmaa
open Eng
set_option maxRecDepth 10000
attribute [local irreducible] FnOk loopW idxF retX arrF

deriving instance DecidableEq for Word
def permB (c : Int) : Bool := decide (c = 32) || decide (c = 9) || decide (c = 10) || (decide (33 ≤ c) && decide (c ≤ 126))
theorem ref_permitted (c : Int) : FnOk Try.prog F.ref6_permitted [By c] [] 0 (Bo (permB c)) [] 0 := by
  refine fnOk tab mix G.ref6_permitted rfl rfl (by kernel_rfl) rfl rfl ?_
  repeat' ((conv => whnf); first | refine ask_m (fun h => ?_) (fun h => ?_) | refine ret0 ?_)
  all_goals exact ret_b (by first | (simp_all [permB]; done) | (simp_all [permB]; omega)) rfl
theorem ref_inWord (c : Int) : FnOk Try.prog F.ref6_inWord [By c] [] 0 (Bo (wordB c)) [] 0 := by
  refine fnOk tab mix G.ref6_inWord rfl rfl (by kernel_rfl) rfl rfl ?_
  repeat' ((conv => whnf); first | refine ask_m (fun h => ?_) (fun h => ?_) | refine ret0 ?_)
  all_goals exact ret_b (by by_cases h35 : c = 35 <;> first | (simp_all [wordB]; done) | (simp_all [wordB]; omega)) rfl
theorem ref_Split (s : ByteArray) : FnOk Try.prog F.ref6_Split [Tx s] [] 0 (SpR (splitOf s)) [] 0 := by
  refine fnOk tab mix G.ref6_Split rfl rfl (by kernel_rfl) rfl rfl ?_
  (conv => whnf)
  refine ask_m (fun h => ?_) (fun h => ?_)
  · have h : 16384 < s.size := by simp at h; omega
    have e : splitOf s = ([], 601, 0) := by rw [splitOf, if_pos h]
    rw [e]
    (conv => whnf)
    refine retO [.own 2 Y.Word 3, .frz 1] ?_
    (conv => whnf)
    exact ⟨[], ⟨rfl, trivial⟩, trivial⟩
  have hs : ¬ 16384 < s.size := by simp at h; omega
  have hsp : splitOf s = if (autoAt s s.size).bad then ([], 601, (autoAt s s.size).line) else (fin s (autoAt s s.size) s.size, 0, 0) := by rw [splitOf, if_neg hs]
  (conv => whnf)
  refine loop_intro (fun p : Nat × SS => ⟨[(0, Tx s), (3, .one (.vptr 0 0)), (4, .one (.row 1)), (5, I p.2.line), (6, I p.2.bgn), (7, Bo p.2.com), (8, I p.1)], [(0, vE 0 0), (1, bWs (fin s p.2 p.1))], 2⟩)
    (fun p => p.1 ≤ s.size ∧ autoAt s p.1 = p.2 ∧ p.2.bad = false ∧ (0 ≤ p.2.ws → p.1 = s.size ∨ wordB (byteAt s p.1) = false)) (fun p => s.size - p.1) [.own 4 Y.Word 3] (0, ⟨1, 0, false, -1, [], false⟩) [] ⟨Nat.zero_le _, rfl, rfl, fun h => absurd h (by decide)⟩ ⟨⟨rfl, rfl, rfl, rfl, rfl, rfl, rfl, trivial⟩, ⟨rfl, rfl, trivial⟩⟩ ?_
  rintro ⟨k, st⟩ ⟨hk, hst, hbad, hwk⟩
  simp only at hk hst hbad hwk
  have hi := auto_inv s k
  rw [hst] at hi
  (conv => whnf)
  refine ask_m (fun h => ?_) (fun h => ?_)
  · have hlt : k < s.size := by simp at h; omega
    have hstep := auto_succ s k
    rw [hst, stepS, if_neg (by rw [hbad]; simp)] at hstep
    have hkk : IntKind.i64.wrap ((k : Int) + 1) = ((k + 1 : Nat) : Int) := by rw [w64] <;> omega
    have hll : IntKind.i64.wrap (st.line + 1) = st.line + 1 := by rw [w64] <;> (have := hi.line1; have := hi.line2; omega)
    have hfl := fin_len s st k
    have hle := hi.len
    (conv => whnf)
    refine ⟨⟨by omega, by omega⟩, ?_⟩
    (conv => whnf)
    rw [Int.toNat_natCast]
    generalize hc : byteAt s k = c at *
    have hnf : ∀ (st' : SS) (j : Nat), st'.ws = -1 → fin s st' j = st'.words := fun st' j h => by rw [fin, if_neg (by rw [h]; decide)]
    refine ask_m (fun h10 => ?_) (fun h10 => ?_)
    · have h10 : c = 10 := by simpa using h10
      rw [if_pos h10] at hstep
      (conv => whnf)
      rw [hll, hkk]
      refine ⟨(k + 1, ⟨st.line + 1, k + 1, false, -1, fin s st k, false⟩), [], ⟨hlt, hstep, rfl, fun h => absurd (show (0 : Int) ≤ -1 from h) (by decide)⟩, by simp only; omega, ⟨⟨rfl, rfl, rfl, rfl, rfl, rfl, rfl, trivial⟩, ⟨rfl, ?_, trivial⟩⟩⟩
      exact (congrArg bWs (hnf ⟨st.line + 1, k + 1, false, -1, fin s st k, false⟩ (k + 1) rfl)).symm
    have h10 : ¬ c = 10 := by simpa using h10
    rw [if_neg h10] at hstep
    (conv => whnf)
    refine ask_m (fun hcm => ?_) (fun hcm => ?_)
    · have hcm : st.com = true := hcm
      rw [if_pos hcm] at hstep
      have hw := hi.com hcm
      (conv => whnf)
      rw [hkk]
      refine ⟨(k + 1, st), [], ⟨hlt, hstep, hbad, fun h => absurd (show 0 ≤ st.ws from h) (by omega)⟩, by simp only; omega, ⟨⟨rfl, rfl, rfl, rfl, rfl, rfl, rfl, trivial⟩, ⟨rfl, ?_, trivial⟩⟩⟩
      show bWs _ = bWs _
      simp only
      rw [hnf st _ hw, hnf st _ hw]
    have hcm : st.com = false := hcm
    rw [if_neg (by rw [hcm]; simp)] at hstep
    (conv => whnf)
    refine ask_m (fun h35 => ?_) (fun h35 => ?_)
    · have h35 : c = 35 := by simpa using h35
      rw [if_neg (by omega), if_pos h35] at hstep
      (conv => whnf)
      rw [hkk]
      refine ⟨(k + 1, ⟨st.line, st.bgn, true, -1, fin s st k, false⟩), [], ⟨hlt, hstep, rfl, fun h => absurd (show (0 : Int) ≤ -1 from h) (by decide)⟩, by simp only; omega, ⟨⟨rfl, rfl, rfl, rfl, rfl, rfl, rfl, trivial⟩, ⟨rfl, ?_, trivial⟩⟩⟩
      exact (congrArg bWs (hnf ⟨st.line, st.bgn, true, -1, fin s st k, false⟩ (k + 1) rfl)).symm
    have h35 : ¬ c = 35 := by simpa using h35
    (conv => whnf)
    refine call_i (ref_permitted c) ?_
    (conv => whnf)
    refine ask_m (fun hp => ?_) (fun hp => ?_)
    · have hp : permB c = false := by simpa using hp
      have hw : wordB c = false := by
        simp [permB] at hp
        rcases hq : wordB c with _ | _
        · rfl
        · simp [wordB] at hq; omega
      have h329 : ¬ (c = 32 ∨ c = 9) := by simp [permB] at hp; omega
      rw [if_neg h329, if_neg h35, if_pos hw] at hstep
      have hB : (autoAt s (k + 1)).bad = true := by rw [hstep]
      have := auto_bad hB (s.size - (k + 1))
      rw [show k + 1 + (s.size - (k + 1)) = s.size by omega] at this
      rw [hsp, this, if_pos hB, hstep]
      (conv => whnf)
      refine retO [.own 2 Y.Word 3, .frz 2] ?_
      (conv => whnf)
      exact ⟨[], ⟨rfl, trivial⟩, trivial⟩
    have hp : permB c = true := by simpa using hp
    (conv => whnf)
    refine call_i (ref_inWord c) ?_
    (conv => whnf)
    refine ask_m (fun hw => ?_) (fun hw => ?_)
    · have hw : wordB c = true := hw
      have hws : st.ws = -1 := by
        have := hi.ws0
        rcases Int.lt_or_le st.ws 0 with h | h
        · omega
        · rcases hwk h with h | h
          · omega
          · rw [hw] at h; contradiction
      have h329 : ¬ (c = 32 ∨ c = 9) := by simp [wordB] at hw; omega
      rw [if_neg h329, if_neg h35, if_neg (by rw [hw]; simp), if_pos (by omega)] at hstep
      have hfin : fin s st k = st.words := hnf st k hws
      rw [hfin]
      (conv => whnf)
      refine loop_intro (fun j : Nat => ⟨[(0, Tx s), (3, .one (.vptr 0 0)), (4, .one (.row 1)), (5, I st.line), (6, I st.bgn), (7, Bo st.com), (8, I k), (10, I j)], [(0, vE 0 0), (1, bWs st.words)], 2⟩)
        (fun j => k ≤ j ∧ j ≤ s.size ∧ (j = k ∨ autoAt s j = ⟨st.line, st.bgn, false, k, st.words, false⟩)) (fun j => s.size - j) [] k [] ⟨Nat.le_refl _, hk, .inl rfl⟩ ⟨⟨rfl, rfl, rfl, rfl, rfl, rfl, rfl, rfl, trivial⟩, ⟨rfl, rfl, trivial⟩⟩ ?_
      rintro j ⟨hj1, hj2, hj3⟩
      -- where the word ends
      have stop : k < j → (j = s.size ∨ wordB (byteAt s j) = false) → ∀ Q : Prop, Q → Q := fun _ _ _ q => q
      (conv => whnf)
      refine ask_m (fun hjn => ?_) (fun hjn => ?_)
      · have hjn : j < s.size := by simp at hjn; omega
        have hjj : IntKind.i64.wrap ((j : Int) + 1) = ((j + 1 : Nat) : Int) := by rw [w64] <;> omega
        (conv => whnf)
        refine ⟨⟨by omega, by omega⟩, ?_⟩
        (conv => whnf)
        rw [Int.toNat_natCast]
        refine call_i (ref_inWord (byteAt s j)) ?_
        (conv => whnf)
        refine ask_m (fun hwj => ?_) (fun hwj => ?_)
        · have hwj : wordB (byteAt s j) = true := hwj
          (conv => whnf)
          refine ⟨j + 1, [], ⟨by omega, hjn, .inr ?_⟩, by omega, ⟨⟨rfl, rfl, rfl, rfl, rfl, rfl, rfl, eqI hjj, trivial⟩, ⟨rfl, rfl, trivial⟩⟩⟩
          rcases hj3 with rfl | hj3
          · exact hstep
          · have hl := wordB_low hwj
            have hne : ¬ byteAt s j = 10 ∧ ¬ (byteAt s j = 32 ∨ byteAt s j = 9) ∧ ¬ byteAt s j = 35 := by simp [wordB] at hwj; omega
            rw [auto_succ, hj3, stepS, if_neg (by simp), if_neg hne.1, if_neg (by simp), if_neg hne.2.1, if_neg hne.2.2, if_neg (by rw [hwj]; simp), if_neg (by show ¬ (k : Int) < 0; omega)]
        · have hwj : wordB (byteAt s j) = false := hwj
          have hkj : k < j := by
            rcases Nat.lt_or_ge k j with h | h
            · exact h
            · obtain rfl : j = k := by omega
              rw [hc, hw] at hwj; contradiction
          have hj3 := hj3.resolve_left (by omega)
          (conv => whnf)
          refine ⟨⟨by omega, by omega, by omega⟩, ?_⟩
          (conv => whnf)
          rw [w64 (x := (k : Int) - st.bgn) (by have := hi.bgn0; have := hi.bgn1; omega) (by have := hi.bgn0; omega), w64 (x := (k : Int) - st.bgn + 1) (by have := hi.bgn0; have := hi.bgn1; omega) (by have := hi.bgn0; omega), Int.toNat_natCast, Int.toNat_natCast]
          refine ⟨⟨by simp; omega, by simp; omega⟩, ?_⟩
          (conv => whnf)
          refine ⟨(j, ⟨st.line, st.bgn, false, k, st.words, false⟩), [(1, 3)], ⟨hj2, hj3, rfl, fun _ => .inr hwj⟩, by simp only; omega, ⟨⟨rfl, rfl, rfl, rfl, rfl, eqB hcm, rfl, trivial⟩, ⟨rfl, ?_, trivial⟩⟩⟩
          show Box.rows Y.Word 3 _ = Box.rows Y.Word 3 _
          refine congrArg _ ?_
          simp only [fin]
          rw [if_pos (by omega), List.map_append, Int.toNat_natCast]; rfl
      · have hjn : j = s.size := by simp at hjn; omega
        have hkj : k < j := by omega
        have hj3 := hj3.resolve_left (by omega)
        (conv => whnf)
        refine ⟨⟨by omega, by omega, by omega⟩, ?_⟩
        (conv => whnf)
        rw [w64 (x := (k : Int) - st.bgn) (by have := hi.bgn0; have := hi.bgn1; omega) (by have := hi.bgn0; omega), w64 (x := (k : Int) - st.bgn + 1) (by have := hi.bgn0; have := hi.bgn1; omega) (by have := hi.bgn0; omega), Int.toNat_natCast, Int.toNat_natCast]
        refine ⟨⟨by simp; omega, by simp; omega⟩, ?_⟩
        (conv => whnf)
        refine ⟨(j, ⟨st.line, st.bgn, false, k, st.words, false⟩), [(1, 3)], ⟨hj2, hj3, rfl, fun _ => .inl hjn⟩, by simp only; omega, ⟨⟨rfl, rfl, rfl, rfl, rfl, eqB hcm, rfl, trivial⟩, ⟨rfl, ?_, trivial⟩⟩⟩
        show Box.rows Y.Word 3 _ = Box.rows Y.Word 3 _
        refine congrArg _ ?_
        simp only [fin]
        rw [if_pos (by omega), List.map_append, Int.toNat_natCast]; rfl
    · have hw : wordB c = false := hw
      have h329 : c = 32 ∨ c = 9 := by simp [permB] at hp; simp [wordB] at hw; omega
      rw [if_pos h329] at hstep
      (conv => whnf)
      rw [hkk]
      refine ⟨(k + 1, ⟨st.line, st.bgn, false, -1, fin s st k, false⟩), [], ⟨hlt, hstep, rfl, fun h => absurd (show (0 : Int) ≤ -1 from h) (by decide)⟩, by simp only; omega, ⟨⟨rfl, rfl, rfl, rfl, rfl, eqB hcm, rfl, trivial⟩, ⟨rfl, ?_, trivial⟩⟩⟩
      exact (congrArg bWs (hnf ⟨st.line, st.bgn, false, -1, fin s st k, false⟩ (k + 1) rfl)).symm
  · have hk : k = s.size := by simp at h; omega
    subst hk
    rw [hst, if_neg (by rw [hbad]; simp)] at hsp
    rw [hsp]
    (conv => whnf)
    refine retO [.frz 1] ?_
    (conv => whnf)
    exact ⟨[], ⟨rfl, trivial⟩, trivial⟩
end Go.Proofs.Ytgnblfojpcjgmaa

/- law7: ref.Parse. -/
namespace Go.Proofs.Ytgnblfojpcjgmaa
open Eng
set_option maxRecDepth 10000
attribute [local irreducible] FnOk loopW idxF retX arrF findF

def knownB (w : ByteArray) : Bool := (countsOf w).isSome
theorem ref_Known (w : ByteArray) : FnOk Try.prog F.ref6_Known [Tx w] [] 0 (Bo (knownB w)) [] 0 := by
  refine fnOk tab mix G.ref6_Known rfl rfl (by kernel_rfl) rfl rfl ?_
  (conv => whnf)
  refine ask_m (fun h => ?_) (fun h => ?_)
  · have h : w = wJoint := of_decide_eq_true h
    (conv => whnf)
    refine ret0 ?_
    exact ret_b (by rw [knownB, countsOf, if_pos h]; rfl) rfl
  have n1 : ¬ w = wJoint := of_decide_eq_false h
  (conv => whnf)
  refine ask_m (fun h => ?_) (fun h => ?_)
  · have h : w = wLimit := of_decide_eq_true h
    (conv => whnf)
    refine ret0 ?_
    exact ret_b (by rw [knownB, countsOf, if_neg n1, if_pos h]; rfl) rfl
  have n2 : ¬ w = wLimit := of_decide_eq_false h
  (conv => whnf)
  refine ask_m (fun h => ?_) (fun h => ?_)
  · have h : w = wMass := of_decide_eq_true h
    (conv => whnf)
    refine ret0 ?_
    exact ret_b (by rw [knownB, countsOf, if_neg n1, if_neg n2, if_pos h]; rfl) rfl
  have n3 : ¬ w = wMass := of_decide_eq_false h
  (conv => whnf)
  refine ask_m (fun h => ?_) (fun h => ?_)
  · have h : w = wShape := of_decide_eq_true h
    (conv => whnf)
    refine ret0 ?_
    exact ret_b (by rw [knownB, countsOf, if_neg n1, if_neg n2, if_neg n3, if_pos h]; rfl) rfl
  have n4 : ¬ w = wShape := of_decide_eq_false h
  (conv => whnf)
  by_cases h : w = wSkip
  · (conv => whnf)
    refine ret0 ?_
    exact ret_b (by rw [knownB, countsOf, if_neg n1, if_neg n2, if_neg n3, if_neg n4, if_pos h]; exact decide_eq_true h) rfl
  · (conv => whnf)
    refine ret0 ?_
    exact ret_b (by rw [knownB, countsOf, if_neg n1, if_neg n2, if_neg n3, if_neg n4, if_neg h]; exact decide_eq_false h) rfl
/-- the statements from an open one on -/
def gTail (s : Stmt) (ws : List Word) : List Stmt := (ws.foldl gstep ([], some s)).1 ++ (ws.foldl gstep ([], some s)).2.toList
theorem gstep_pre (ws : List Word) : ∀ (rs : List Stmt) (o : Option Stmt), ws.foldl gstep (rs, o) = (rs ++ (ws.foldl gstep ([], o)).1, (ws.foldl gstep ([], o)).2) := by
  induction ws with
  | nil => intro rs o; simp
  | cons w ws ih =>
    intro rs o
    cases o with
    | none => simp only [List.foldl_cons, gstep]; exact ih rs _
    | some s =>
      simp only [List.foldl_cons, gstep]
      split
      · exact ih rs _
      · rw [ih, ih ([] ++ [s])]; simp
theorem group_cons (w : Word) (ws : List Word) : groupOf (w :: ws) = gTail ⟨w.line, w.text, []⟩ ws := rfl
theorem tail_same {s : Stmt} {w : Word} {ws : List Word} (h : s.line = w.line) : gTail s (w :: ws) = gTail ⟨s.line, s.word, s.args ++ [w.text]⟩ ws := by
  simp only [gTail, List.foldl_cons, gstep, if_pos h]
theorem tail_other {s : Stmt} {w : Word} {ws : List Word} (h : ¬ s.line = w.line) : gTail s (w :: ws) = s :: groupOf (w :: ws) := by
  rw [group_cons]
  simp only [gTail, List.foldl_cons, gstep, if_neg h]
  rw [gstep_pre]; simp
theorem tail_nil (s : Stmt) : gTail s [] = s :: groupOf [] := rfl
theorem checkOf_big {i : Nat} {s : Stmt} (h : 256 ≤ i) : checkOf i s = 703 := by rw [checkOf, if_pos h]
theorem checkOf_small {i : Nat} {s : Stmt} (h : ¬ 256 ≤ i) : checkOf i s = if knownB s.word then if argsB s.word s.args.length then 0 else 702 else 701 := by
  rw [checkOf, if_neg h, knownB, argsB]
  cases countsOf s.word <;> rfl
theorem ref_Parse (src : ByteArray) : FnOk Try.prog F.ref6_Parse [Tx src] [] 0 (PaR (parseOf src)) [] 0 := by
  refine fnOk tab mix G.ref6_Parse rfl rfl (by kernel_rfl) rfl rfl ?_
  (conv => whnf)
  refine call_i (ref_Split src) ?_
  (conv => whnf)
  have hsl := split_len src
  refine ask_m (fun h => ?_) (fun h => ?_)
  · have h : (splitOf src).2.1 ≠ 0 := by simpa using h
    have e : parseOf src = ([], (splitOf src).2) := by rw [parseOf, if_pos h]
    rw [e]
    (conv => whnf)
    refine retO [.own 2 Y.Statement 3, .frz 2] ?_
    (conv => whnf)
    exact ⟨[], ⟨rfl, trivial⟩, trivial⟩
  have h0 : ¬ (splitOf src).2.1 ≠ 0 := by simpa using h
  have e0 : parseOf src = match firstErr 0 (groupOf (splitOf src).1) with
    | some e => ([], e)
    | none => (groupOf (splitOf src).1, 0, 0) := by rw [parseOf, if_neg h0] <;> rfl
  (conv => whnf)
  generalize (splitOf src).1 = ws at *
  refine loop_intro (fun p : Nat × List Stmt => ⟨[(2, .one (.nil 3)), (3, .one (.vptr 0 0)), (4, .one (.dv (dWs ws))), (6, .one (.row 1)), (7, I p.1)], [(0, vE 0 0), (1, .rows Y.Statement 3 (p.2.map encSt))], 2⟩)
    (fun p => p.1 ≤ ws.length ∧ p.2.length ≤ 256 ∧ groupOf ws = p.2 ++ groupOf (ws.drop p.1) ∧ firstErr 0 (groupOf ws) = firstErr p.2.length (groupOf (ws.drop p.1))) (fun p => ws.length - p.1) [.own 6 Y.Statement 3] (0, []) [(1, 2)] ⟨Nat.zero_le _, Nat.zero_le _, rfl, rfl⟩ ⟨⟨rfl, rfl, rfl, rfl, rfl, trivial⟩, ⟨rfl, rfl, trivial⟩⟩ ?_
  rintro ⟨k, out⟩ ⟨hk, ho, hg, hf⟩
  simp only at hk ho hg hf
  (conv => whnf)
  refine ask_m (fun h => ?_) (fun h => ?_)
  · have hlt : k < ws.length := by have := of_decide_eq_true h; simp at this; omega
    obtain ⟨w, hw⟩ : ∃ w, ws[k]? = some w := ⟨_, List.getElem?_eq_getElem hlt⟩
    have hkk : IntKind.i64.wrap ((k : Int) + 1) = ((k + 1 : Nat) : Int) := by rw [w64] <;> omega
    rw [drop_cons hw, group_cons] at hg hf
    (conv => whnf)
    refine idx_and (by omega) (by simpa using hw) ?_
    (conv => whnf)
    refine idx_and (by omega) (by simpa using hw) ?_
    (conv => whnf)
    rw [hkk]
    refine loop_intro (fun p : Nat × List ByteArray => ⟨[(2, .one (.nil 3)), (3, .one (.vptr 0 0)), (4, .one (.dv (dWs ws))), (6, .one (.row 1)), (7, I p.1), (8, .one (.vptr 2 0))], [(0, vE 0 0), (1, .rows Y.Statement 3 (out.map encSt)), (2, .vars Y.Statement [.dv (.int .i64 w.line), .dv (.str w.text), .row 3]), (3, .rows Y.string 1 (p.2.map encA))], 4⟩)
      (fun p => k < p.1 ∧ p.1 ≤ ws.length ∧ p.2.length ≤ p.1 ∧ gTail ⟨w.line, w.text, []⟩ (ws.drop (k + 1)) = gTail ⟨w.line, w.text, p.2⟩ (ws.drop p.1)) (fun p => ws.length - p.1) [.ownC 2 2 Y.string 1] (k + 1, []) [] ⟨Nat.lt_succ_self _, hlt, Nat.zero_le _, rfl⟩ ⟨⟨rfl, rfl, rfl, rfl, rfl, rfl, trivial⟩, ⟨rfl, rfl, rfl, rfl, trivial⟩⟩ ?_
    rintro ⟨i, xs⟩ ⟨hki, hi, hxs, ht⟩
    simp only at hki hi hxs ht
    have hend : (ws.drop i = [] ∨ ∃ v, ws[i]? = some v ∧ ¬ v.line = w.line) → gTail ⟨w.line, w.text, xs⟩ (ws.drop i) = ⟨w.line, w.text, xs⟩ :: groupOf (ws.drop i) := by
      rintro (h | ⟨v, hv, hn⟩)
      · rw [h]; rfl
      · rw [drop_cons hv]; exact tail_other fun e => hn e.symm
    have hrest : gTail ⟨w.line, w.text, xs⟩ (ws.drop i) = ⟨w.line, w.text, xs⟩ :: groupOf (ws.drop i) → True := fun _ => trivial
    by_cases hin : ∃ v, ws[i]? = some v ∧ v.line = w.line
    · obtain ⟨v, hv, hvl⟩ := hin
      have hil : i < ws.length := (List.getElem?_eq_some_iff.1 hv).1
      have hii : IntKind.i64.wrap ((i : Int) + 1) = ((i + 1 : Nat) : Int) := by rw [w64] <;> omega
      (conv => whnf)
      refine ask_mt (decide_eq_true (by simp; omega)) ?_
      (conv => whnf)
      refine idx_and (by omega) (by simpa using hv) ?_
      (conv => whnf)
      refine ask_mt (by simpa using hvl) ?_
      (conv => whnf)
      refine idx_and (by omega) (by simpa using hv) ?_
      (conv => whnf)
      refine ⟨⟨by simp; omega, by simp; omega⟩, ?_⟩
      (conv => whnf)
      refine ⟨(i + 1, xs ++ [v.text]), [(3, 5)], ⟨by omega, hil, by simp; omega, ?_⟩, by simp only; omega, ⟨⟨rfl, rfl, rfl, rfl, eqI hii, rfl, trivial⟩, ⟨rfl, rfl, rfl, ?_, trivial⟩⟩⟩
      · rw [ht, drop_cons hv, tail_same (by exact hvl.symm)]
      · exact congrArg (Box.rows Y.string 1) (show xs.map encA ++ [[.str v.text]] = (xs ++ [v.text]).map encA by simp [encA])
    · have hx : ws.drop i = [] ∨ ∃ v, ws[i]? = some v ∧ ¬ v.line = w.line := by
        by_cases hil : i < ws.length
        · exact .inr ⟨_, List.getElem?_eq_getElem hil, fun e => hin ⟨_, List.getElem?_eq_getElem hil, e⟩⟩
        · exact .inl (List.drop_eq_nil_of_le (by omega))
      have ht2 := ht.trans (hend hx)
      rw [ht2] at hg hf
      have hbo : ¬ 256 ≤ out.length → out.length < 256 := by omega
      by_cases hil : i < ws.length
      case' pos =>
        obtain ⟨v, hv⟩ : ∃ v, ws[i]? = some v := ⟨_, List.getElem?_eq_getElem hil⟩
        have hvl : ¬ v.line = w.line := fun e => hin ⟨v, hv, e⟩
        (conv => whnf)
        refine ask_mt (decide_eq_true (by simp; omega)) ?_
        (conv => whnf)
        refine idx_and (by omega) (by simpa using hv) ?_
        (conv => whnf)
        refine ask_mf (by simpa using hvl) ?_
        (conv => whnf)
      case' neg =>
        (conv => whnf)
        refine ask_mf (decide_eq_false (by simp; omega)) ?_
        (conv => whnf)
      all_goals
        rw [firstErr] at hf
        refine ask_m (fun h => ?_) (fun h => ?_)
        · have h : 256 ≤ out.length := by have := of_decide_eq_true h; simp at this; omega
          rw [checkOf_big h, if_neg (by decide)] at hf
          rw [hf] at e0
          simp only at e0
          rw [e0]
          (conv => whnf)
          refine retO [.own 2 Y.Statement 3, .frz 4] ?_
          (conv => whnf)
          exact ⟨[], ⟨rfl, trivial⟩, trivial⟩
        have h : ¬ 256 ≤ out.length := by have := of_decide_eq_false h; simp at this; omega
        rw [checkOf_small h] at hf
        simp only at hf
        (conv => whnf)
        refine call_i (ref_Known w.text) ?_
        (conv => whnf)
        cases hkn : knownB w.text with
        | false =>
          rw [hkn, if_neg (show ¬ (false = true) by decide), if_neg (show ¬ (701 : Int) = 0 by decide)] at hf
          rw [hf] at e0
          simp only at e0
          rw [e0]
          (conv => whnf)
          (conv => whnf)
          refine retO [.own 2 Y.Statement 3, .frz 4] ?_
          (conv => whnf)
          exact ⟨[], ⟨rfl, trivial⟩, trivial⟩
        | true =>
          rw [hkn, if_pos rfl] at hf
          (conv => whnf)
          refine call_i (ref_Arguments w.text ((xs.map encA).length)) ?_
          (conv => whnf)
          rw [List.length_map]
          cases har : argsB w.text xs.length with
          | false =>
            rw [har, if_neg (show ¬ (false = true) by decide), if_neg (show ¬ (702 : Int) = 0 by decide)] at hf
            rw [hf] at e0
            simp only at e0
            rw [e0]
            (conv => whnf)
            (conv => whnf)
            refine retO [.own 2 Y.Statement 3, .frz 4] ?_
            (conv => whnf)
            exact ⟨[], ⟨rfl, trivial⟩, trivial⟩
          | true =>
            rw [har, if_pos rfl, if_pos rfl] at hf
            (conv => whnf)
            refine ⟨⟨by simp; omega, by simp; omega⟩, ?_⟩
            (conv => whnf)
            refine ⟨(i, out ++ [⟨w.line, w.text, xs⟩]), [(1, 5)], ⟨hi, by simp; omega, by rw [hg]; simp, by rw [hf]; simp⟩, by simp only; omega, ⟨⟨rfl, rfl, rfl, rfl, rfl, trivial⟩, ⟨rfl, ?_, trivial⟩⟩⟩
            exact congrArg (Box.rows Y.Statement 3) (show out.map encSt ++ [[.int .i64 w.line, .str w.text, .lst 1 (xs.map encA)]] = (out ++ [Stmt.mk w.line w.text xs]).map encSt by rw [List.map_append]; rfl)
  · have hk : k = ws.length := by have := of_decide_eq_false h; simp at this; omega
    subst hk
    rw [List.drop_length] at hg hf
    have e1 : groupOf ([] : List Word) = [] := rfl
    rw [e1, firstErr] at hf
    rw [e1, List.append_nil] at hg
    rw [hf, hg] at e0
    simp only at e0
    rw [e0]
    (conv => whnf)
    refine retO [.frz 1] ?_
    (conv => whnf)
    exact ⟨[], ⟨rfl, trivial⟩, trivial⟩
end Go.Proofs.Ytgnblfojpcjgmaa

/- Bytes and texts as parameters; tables of texts. -/
namespace Go.Proofs.Ytgnblfojpcjgmaa
open Eng
set_option maxRecDepth 10000

def encB (n : Int) : List DV := [.int .u8 n]
abbrev Lb (xs : List Int) : SV := .one (.dv (.lst 1 (xs.map encB)))
def bytesOk (xs : List Int) : Prop := xs.length ≤ 140737488351232 ∧ ∀ x ∈ xs, 0 ≤ x ∧ x < 256
theorem wf_u8 {a : Int} (h : (Lit.int .u8 a).wf = true) : 0 ≤ a ∧ a < 256 := by
  have h' : IntKind.u8.min ≤ a ∧ a ≤ IntKind.u8.max := by simpa [Lit.wf] using h
  have e1 : IntKind.u8.min = 0 := by decide
  have e2 : IntKind.u8.max = 255 := by decide
  omega
theorem tyB_uint8 {n : Nat} {ds : List DV} (h : Typed T (n + 1) Y.uint8 ds) : ∃ a, ds = encB a ∧ 0 ≤ a ∧ a < 256 := by
  obtain ⟨a, h1, h2⟩ := h
  exact ⟨a, h1, wf_u8 h2⟩
theorem tyB_s_uint8 {n : Nat} {ds : List DV} (h : Typed T (n + 2) Y.s_uint8 ds) : ∃ xs : List Int, ds = [.lst 1 (xs.map encB)] ∧ bytesOk xs := by
  obtain ⟨rs, h1, h2, _, h3⟩ := h
  have key : ∀ rs : List (List DV), (∀ r ∈ rs, Typed T (n + 1) Y.uint8 r) → ∃ xs : List Int, rs = xs.map encB ∧ ∀ x ∈ xs, 0 ≤ x ∧ x < 256 := by
    intro rs
    induction rs with
    | nil => intro _; exact ⟨[], rfl, by simp⟩
    | cons r rs ih =>
      intro h
      obtain ⟨a, e, ha⟩ := tyB_uint8 (h r (by simp))
      obtain ⟨xs, e', hx⟩ := ih fun r hr => h r (by simp [hr])
      exact ⟨a :: xs, by rw [e, e']; rfl, fun x hx' => by
        rcases List.mem_cons.1 hx' with rfl | hx'
        · exact ha
        · exact hx x hx'⟩
  obtain ⟨xs, rfl, hx⟩ := key rs h3
  refine ⟨xs, h1, ?_, hx⟩
  have : xs.length * 1 ≤ reachBytes := by simpa using h2
  unfold reachBytes at this; omega
theorem tyB_string {n : Nat} {ds : List DV} (h : Typed T (n + 1) Y.string ds) : ∃ s : ByteArray, ds = [.str s] ∧ s.size ≤ 140737488351232 := by
  obtain ⟨s, h1, h2⟩ := h
  refine ⟨s, h1, ?_⟩
  unfold reachBytes at h2; omega
/-- the text of a table -/
theorem arr_text {te : TI} {tb : List ByteArray} {i : Nat} {s : ByteArray} {k : SV → Prop} (ha : te.kind.agg = false) (hs : te.size = 1) (hc : tb[i]? = some s) (h : k (Tx s)) : arrF te (tb.map fun s => CV.dv (.str s)) i k :=
  arr_at ha hs (by rw [List.getElem?_map, hc]; rfl) h
/-- texts of a table, one behind the other -/
def cat (f : Int → ByteArray) (xs : List Int) : ByteArray := xs.foldl (fun s x => s ++ f x) ByteArray.empty
theorem cat_succ {f : Int → ByteArray} {xs : List Int} {k : Nat} {x : Int} (h : xs[k]? = some x) : cat f (xs.take (k + 1)) = cat f (xs.take k) ++ f x := by
  rw [List.take_add_one, h, cat, List.foldl_append]; rfl
theorem cat_size {f : Int → ByteArray} {c : Nat} (hf : ∀ x, (f x).size ≤ c) (xs : List Int) : (cat f xs).size ≤ xs.length * c := by
  have key : ∀ (xs : List Int) (s : ByteArray), (xs.foldl (fun s x => s ++ f x) s).size ≤ s.size + xs.length * c := by
    intro xs
    induction xs with
    | nil => intro s; simp
    | cons x xs ih =>
      intro s
      have := ih (s ++ f x)
      rw [ByteArray.size_append] at this
      have := hf x
      simp only [List.foldl_cons, List.length_cons, Nat.succ_mul]
      omega
  have := key xs ByteArray.empty
  simpa [cat] using this
theorem u8mod {x m : Int} (h0 : 0 ≤ x) (hm : 0 < m) : x.tmod m = x % m := Int.tmod_eq_emod_of_nonneg h0
end Go.Proofs.Ytgnblfojpcjgmaa

/- Common ground: sources; data of the parameters' types. -/
namespace Go.Proofs.Ytgnblfojpcjgmaa
open Eng
set_option maxRecDepth 10000
attribute [local irreducible] FnOk loopW idxF retX arrF

theorem mk_Round (x m : Int) (hm : 0 < m) (hm2 : m ≤ 4611686018427387904) : FnOk Try.prog F.mk_Round [I x, I m] [] 0 (I (x % m)) [] 0 := by
  refine fnOk tab mix G.mk_Round rfl rfl (by kernel_rfl) rfl rfl ?_
  obtain ⟨h1, h2, h3, h4⟩ := tmod_pos (x := x) hm
  (conv => whnf)
  refine ⟨by omega, ?_⟩
  repeat' ((conv => whnf); first | refine ask_m (fun h => ?_) (fun h => ?_) | refine ret0 ?_)
  all_goals (conv => whnf)
  · have h : x.tmod m < 0 := by simpa using h
    exact ret_i (by rw [w64 (by omega) (by omega)]; exact h1 h) rfl
  · have h : ¬ x.tmod m < 0 := by simpa using h
    exact ret_i (h2 (by omega)) rfl

/- sources -/
abbrev Src (xs : List Int) (k : Nat) : Box := .vars Y.mk_Source [.dv (.lst 1 (xs.map encI)), .dv (.int .i64 k)]
def nxt (xs : List Int) (k : Nat) (m : Int) : Int := match xs[k]? with
  | some x => x % m
  | none => 0
def adv (xs : List Int) (k : Nat) : Nat := if k < xs.length then k + 1 else k
theorem nxt_bd {l : List Int} {j : Nat} {m : Int} (hm : 0 < m) : 0 ≤ nxt l j m ∧ nxt l j m < m := by
  unfold nxt; split
  · exact ⟨Int.emod_nonneg _ (by omega), Int.emod_lt_of_pos _ (by omega)⟩
  · omega
theorem mk_From_k (xs : List Int) : FnOk Try.prog F.mk_From [Li xs] [] 0 (.one (.vptr 0 0)) [(0, Src xs 0)] 1 := by
  refine fnOk tab mix G.mk_From rfl rfl (by kernel_rfl) rfl rfl ?_
  repeat' ((conv => whnf); first | refine ask_m (fun h => ?_) (fun h => ?_) | refine ret0 ?_)
  exact ⟨[], ⟨rfl, trivial⟩, ⟨rfl, trivial⟩⟩
theorem mk_Next_k (xs : List Int) (k : Nat) (m : Int) (hm : 0 < m) (hm2 : m ≤ 4611686018427387904) (hx : xs.length ≤ 4611686018427387904) (hk : k ≤ xs.length) : FnOk Try.prog F.mk_Source_Next [.one (.vptr 0 0), I m] [(0, Src xs k)] 1 (I (nxt xs k m)) [(0, Src xs (adv xs k))] 1 := by
  refine fnOk tab mix G.mk_Source_Next rfl rfl (by kernel_rfl) rfl rfl ?_
  repeat' ((conv => whnf); first | refine ask_m (fun h => ?_) (fun h => ?_) | refine ret0 ?_)
  · have hl : ¬ k < xs.length := by simp at h; omega
    have h1 : nxt xs k m = 0 := by unfold nxt; rw [List.getElem?_eq_none (by omega)]
    have h2 : adv xs k = k := by simp [adv, hl]
    rw [h1, h2]
    exact ⟨[], ⟨rfl, trivial⟩, ⟨rfl, trivial⟩⟩
  · have hl : k < xs.length := by simp at h; omega
    obtain ⟨x, hxk⟩ : ∃ x, xs[k]? = some x := ⟨_, List.getElem?_eq_getElem hl⟩
    have h1 : nxt xs k m = x % m := by unfold nxt; rw [hxk]
    have h2 : adv xs k = k + 1 := by simp [adv, hl]
    have w1 : IntKind.i64.wrap ((k : Int) + 1) = ((k + 1 : Nat) : Int) := by rw [w64] <;> omega
    have w2 : IntKind.i64.wrap (((k + 1 : Nat) : Int) - 1) = k := by rw [w64] <;> omega
    rw [h1, h2]
    (conv => whnf)
    rw [w1, w2]
    refine ⟨by omega, idx_map (by simpa using hxk) ?_⟩
    (conv => whnf)
    refine ⟨_, _, _, mk_Round x m hm hm2, ?_⟩
    (conv => whnf)
    refine ret0 ?_
    exact ⟨[], ⟨rfl, trivial⟩, ⟨rfl, trivial⟩⟩
/-- a source of which j numbers have been asked -/
abbrev SrcJ (l : List Int) (j : Nat) : Box := Src l (min j l.length)
theorem nxt_min {l : List Int} {j : Nat} {m : Int} : nxt l (min j l.length) m = nxt l j m := by
  unfold nxt
  by_cases h : j < l.length
  · rw [Nat.min_eq_left (by omega)]
  · rw [Nat.min_eq_right (by omega), List.getElem?_eq_none (Nat.le_refl _), List.getElem?_eq_none (by omega)]
theorem adv_min {l : List Int} {j : Nat} : adv l (min j l.length) = min (j + 1) l.length := by
  unfold adv; split <;> omega
theorem mk_Next (l : List Int) (j : Nat) (m : Int) (hm : 0 < m) (hm2 : m ≤ 4611686018427387904) (hl : l.length ≤ 4611686018427387904) : FnOk Try.prog F.mk_Source_Next [.one (.vptr 0 0), I m] [(0, SrcJ l j)] 1 (I (nxt l j m)) [(0, SrcJ l (j + 1))] 1 := by
  have := mk_Next_k l (min j l.length) m hm hm2 hl (by omega)
  rw [nxt_min, adv_min] at this
  exact this
theorem mk_From (l : List Int) : FnOk Try.prog F.mk_From [Li l] [] 0 (.one (.vptr 0 0)) [(0, SrcJ l 0)] 1 := by
  show FnOk Try.prog F.mk_From [Li l] [] 0 (.one (.vptr 0 0)) [(0, Src l (min 0 l.length))] 1
  rw [Nat.zero_min]
  exact mk_From_k l
theorem mk_Signed (l : List Int) (j : Nat) (m M : Int) (hM : 2 * m + 1 = M) (hm : 0 < m) (hm2 : m ≤ 1152921504606846976) (hl : l.length ≤ 4611686018427387904) : FnOk Try.prog F.mk_Source_Signed [.one (.vptr 0 0), I m] [(0, SrcJ l j)] 1 (I (nxt l j M - m)) [(0, SrcJ l (j + 1))] 1 := by
  refine fnOk tab mix G.mk_Source_Signed rfl rfl (by kernel_rfl) rfl rfl ?_
  have w1 : IntKind.i64.wrap (2 * m) = 2 * m := by rw [w64] <;> omega
  have w2 : IntKind.i64.wrap (2 * m + 1) = M := by rw [w64] <;> omega
  have hn := nxt_bd (l := l) (j := j) (m := M) (by omega)
  have w3 : IntKind.i64.wrap (nxt l j M - m) = nxt l j M - m := by rw [w64] <;> omega
  (conv => whnf)
  rw [w1, w2]
  refine ⟨_, _, _, mk_Next l j M (by omega) (by omega) hl, ?_⟩
  (conv => whnf)
  refine ret0 ?_
  exact ⟨[], ⟨eqI w3, trivial⟩, ⟨rfl, trivial⟩⟩

/- data of the parameters' types -/
theorem ty_int64 {n : Nat} {ds : List DV} (h : Typed T (n + 1) Y.int64 ds) : ∃ a, ds = encI a := by
  obtain ⟨a, h, _⟩ := h
  exact ⟨a, h⟩
theorem ty_int {n : Nat} {ds : List DV} (h : Typed T (n + 1) Y.int ds) : ∃ a, ds = encI a := by
  obtain ⟨a, h, _⟩ := h
  exact ⟨a, h⟩
theorem ty_s_int {n : Nat} {ds : List DV} (h : Typed T (n + 2) Y.s_int ds) : ∃ xs : List Int, ds = [.lst 1 (xs.map encI)] ∧ xs.length ≤ 17592186043904 := by
  obtain ⟨rs, h1, h2, _, h3⟩ := h
  obtain ⟨xs, rfl⟩ := map_of (enc := encI) fun r hr => ty_int (h3 r hr)
  refine ⟨xs, h1, ?_⟩
  have : xs.length * 8 ≤ reachBytes := by simpa using h2
  unfold reachBytes at this; omega
/- the same, each with a bound -/
theorem tyB_int {n : Nat} {ds : List DV} (h : Typed T (n + 1) Y.int ds) : ∃ a, ds = encI a ∧ True := by
  obtain ⟨a, h⟩ := ty_int h
  exact ⟨a, h, trivial⟩
theorem tyB_s_int {n : Nat} {ds : List DV} (h : Typed T (n + 2) Y.s_int ds) : ∃ xs : List Int, ds = [.lst 1 (xs.map encI)] ∧ xs.length ≤ 17592186043904 := ty_s_int h
end Go.Proofs.Ytgnblfojpcjgmaa

/- law7: SameStatements, typical, awake; SyntaxParses, SyntaxArguments. -/
namespace Go.Proofs.Ytgnblfojpcjgmaa
open Eng
set_option maxRecDepth 10000
attribute [local irreducible] FnOk loopW idxF retX arrF findF

theorem mk_Same_string (a b : List ByteArray) (ha : a.length ≤ 4611686018427387904) (hb : b.length ≤ 4611686018427387904) : FnOk Try.prog F.mk_Same_string [.one (.dv (.lst 1 (a.map encA))), .one (.dv (.lst 1 (b.map encA)))] [] 0 (Bo (decide (a = b))) [] 0 := by
  refine fnOk tab mix G.mk_Same_string rfl rfl (by kernel_rfl) rfl rfl ?_
  (conv => whnf)
  refine ask_m (fun h => ?_) (fun h => ?_)
  · (conv => whnf)
    refine ret0 ?_
    refine ret_b (Eq.symm (decide_eq_false ?_)) rfl
    rintro rfl
    simp at h
  have hl : a.length = b.length := by simp at h; omega
  (conv => whnf)
  refine loop_intro (fun k : Nat => ⟨[(0, .one (.dv (.lst 1 (a.map encA)))), (1, .one (.dv (.lst 1 (b.map encA)))), (5, I k)], [], 0⟩) (fun k => k ≤ a.length ∧ a.take k = b.take k) (fun k => a.length - k) [] 0 [] ⟨Nat.zero_le _, rfl⟩ ⟨⟨rfl, rfl, rfl, trivial⟩, trivial⟩ ?_
  rintro k ⟨hk, hall⟩
  (conv => whnf)
  refine ask_m (fun h => ?_) (fun h => ?_)
  · have hlt : k < a.length := by simpa using h
    obtain ⟨x, hx⟩ : ∃ j, a[k]? = some j := ⟨_, List.getElem?_eq_getElem hlt⟩
    obtain ⟨y, hy⟩ : ∃ j, b[k]? = some j := ⟨_, List.getElem?_eq_getElem (by omega)⟩
    have hkk : IntKind.i64.wrap ((k : Int) + 1) = ((k + 1 : Nat) : Int) := by rw [w64] <;> omega
    (conv => whnf)
    refine idx_and (by omega) (by simpa using hx) ?_
    (conv => whnf)
    refine idx_and (by omega) (by simpa using hy) ?_
    (conv => whnf)
    refine ask_m (fun h => ?_) (fun h => ?_)
    · (conv => whnf)
      refine ret0 ?_
      refine ret_b (Eq.symm (decide_eq_false (ne_at hx hy ?_))) rfl
      rintro rfl
      simp at h
    · skip
      have e : x = y := by simpa using h
      subst e
      (conv => whnf)
      exact ⟨k + 1, [], ⟨hlt, take_same hall hx hy⟩, by omega, ⟨⟨rfl, rfl, eqI hkk, trivial⟩, trivial⟩⟩
  · have hk : k = a.length := by simp at h; omega
    subst hk
    rw [List.take_length, hl, List.take_length] at hall
    (conv => whnf)
    refine ret0 ?_
    exact ret_b (decide_eq_true hall).symm rfl

def keyS (ln : Bool) (s : Stmt) : ByteArray × List ByteArray × Int := (s.word, s.args, if ln then s.line else 0)
def sameSt (ln : Bool) (a b : List Stmt) : Bool := decide (a.map (keyS ln) = b.map (keyS ln))
theorem mk_SameStatements (a b : List Stmt) (ln : Bool) (ha : a.length ≤ 4611686018427387904) (hb : b.length ≤ 4611686018427387904) (ha2 : ∀ s ∈ a, s.args.length ≤ 4611686018427387904) (hb2 : ∀ s ∈ b, s.args.length ≤ 4611686018427387904) : FnOk Try.prog F.mk_SameStatements [.one (.dv (dSts a)), .one (.dv (dSts b)), Bo ln] [] 0 (Bo (sameSt ln a b)) [] 0 := by
  refine fnOk tab mix G.mk_SameStatements rfl rfl (by kernel_rfl) rfl rfl ?_
  (conv => whnf)
  refine ask_m (fun h => ?_) (fun h => ?_)
  · (conv => whnf)
    refine ret0 ?_
    refine ret_b (Eq.symm (decide_eq_false ?_)) rfl
    intro e
    have := congrArg List.length e
    simp at h this
    omega
  have hl : a.length = b.length := by simp at h; omega
  (conv => whnf)
  refine loop_intro (fun k : Nat => ⟨[(0, .one (.dv (dSts a))), (1, .one (.dv (dSts b))), (2, Bo ln), (7, I k)], [], 0⟩) (fun k => k ≤ a.length ∧ (a.map (keyS ln)).take k = (b.map (keyS ln)).take k) (fun k => a.length - k) [] 0 [] ⟨Nat.zero_le _, rfl⟩ ⟨⟨rfl, rfl, rfl, rfl, trivial⟩, trivial⟩ ?_
  rintro k ⟨hk, hall⟩
  (conv => whnf)
  refine ask_m (fun h => ?_) (fun h => ?_)
  · have hlt : k < a.length := by simpa using h
    obtain ⟨x, hx⟩ : ∃ j, a[k]? = some j := ⟨_, List.getElem?_eq_getElem hlt⟩
    obtain ⟨y, hy⟩ : ∃ j, b[k]? = some j := ⟨_, List.getElem?_eq_getElem (by omega)⟩
    have hkk : IntKind.i64.wrap ((k : Int) + 1) = ((k + 1 : Nat) : Int) := by rw [w64] <;> omega
    have hx2 : (a.map (keyS ln))[k]? = some (keyS ln x) := by rw [List.getElem?_map, hx]; rfl
    have hy2 : (b.map (keyS ln))[k]? = some (keyS ln y) := by rw [List.getElem?_map, hy]; rfl
    have hbad : keyS ln x ≠ keyS ln y → sameSt ln a b = false := fun hn => decide_eq_false (ne_at hx2 hy2 hn)
    (conv => whnf)
    refine idx_and (by omega) (by simpa using hx) ?_
    (conv => whnf)
    refine idx_and (by omega) (by simpa using hy) ?_
    (conv => whnf)
    refine ask_m (fun h => ?_) (fun h => ?_)
    · have h : ¬ x.word = y.word := by simpa using h
      (conv => whnf)
      refine ret0 ?_
      exact ret_b (by rw [hbad fun e => h (congrArg Prod.fst e)]) rfl
    have h1 : x.word = y.word := by simpa using h
    (conv => whnf)
    refine idx_and (by omega) (by simpa using hx) ?_
    (conv => whnf)
    refine idx_and (by omega) (by simpa using hy) ?_
    (conv => whnf)
    refine call_i (mk_Same_string x.args y.args (ha2 x (List.mem_of_getElem? hx)) (hb2 y (List.mem_of_getElem? hy))) ?_
    (conv => whnf)
    by_cases h2 : x.args = y.args
    · rw [decide_eq_true h2]
      (conv => whnf)
      cases ln with
      | true =>
        (conv => whnf)
        refine idx_and (by omega) (by simpa using hx) ?_
        (conv => whnf)
        refine idx_and (by omega) (by simpa using hy) ?_
        (conv => whnf)
        refine ask_m (fun h => ?_) (fun h => ?_)
        · have h : ¬ x.line = y.line := by simpa using h
          (conv => whnf)
          refine ret0 ?_
          exact ret_b (by rw [hbad fun e => h (congrArg (fun q => q.2.2) e)]) rfl
        have h3 : x.line = y.line := by simpa using h
        (conv => whnf)
        have e : keyS true x = keyS true y := by simp [keyS, h1, h2, h3]
        exact ⟨k + 1, [], ⟨hlt, take_same hall hx2 (by rw [e]; exact hy2)⟩, by omega, ⟨⟨rfl, rfl, rfl, eqI hkk, trivial⟩, trivial⟩⟩
      | false =>
        (conv => whnf)
        have e : keyS false x = keyS false y := by simp [keyS, h1, h2]
        exact ⟨k + 1, [], ⟨hlt, take_same hall hx2 (by rw [e]; exact hy2)⟩, by omega, ⟨⟨rfl, rfl, rfl, eqI hkk, trivial⟩, trivial⟩⟩
    · rw [decide_eq_false h2]
      (conv => whnf)
      (conv => whnf)
      refine ret0 ?_
      exact ret_b (by rw [hbad fun e => h2 (congrArg (fun q => q.2.1) e)]) rfl
  · have hk : k = a.length := by simp at h; omega
    subst hk
    rw [List.take_of_length_le (by simp), List.take_of_length_le (by simp; omega)] at hall
    (conv => whnf)
    refine ret0 ?_
    exact ret_b (by rw [sameSt, decide_eq_true hall]) rfl
def typTab : List ByteArray := [⟨#[115, 107, 105, 112, 32, 97, 32, 98, 10]⟩, ⟨#[109, 97, 115, 115, 32, 97, 32, 49, 32, 48, 32, 48, 32, 48, 10]⟩, ⟨#[108, 105, 109, 105, 116, 32, 97, 32, 49, 32, 49, 32, 49, 10]⟩, ⟨#[106, 111, 105, 110, 116, 32, 97, 32, 116, 117, 114, 110, 122, 32, 119, 111, 114, 108, 100, 32, 48, 32, 48, 32, 48, 32, 48, 32, 49, 32, 49, 10]⟩, ⟨#[115, 104, 97, 112, 101, 32, 97, 32, 49, 32, 48, 32, 48, 32, 48, 10]⟩, ⟨#[115, 104, 97, 112, 101, 32, 97, 32, 49, 32, 48, 32, 48, 32, 48, 32, 49, 32, 49, 32, 49, 32, 35, 32, 116, 119, 111, 10]⟩, ⟨#[10]⟩, ⟨#[115, 107, 105, 112, 32, 97, 10]⟩, ⟨#[104, 111, 112, 10]⟩, ⟨#[32, 32, 115, 107, 105, 112, 32, 32, 120, 9, 121, 10]⟩, ⟨#[35, 32, 110, 111, 116, 101, 10]⟩, ⟨#[115, 104, 97, 112, 101, 32, 97, 32, 49, 32, 50, 32, 51, 32, 52, 32, 53, 10]⟩]
def typF (x : Int) : ByteArray := typTab.getD (x % 12).toNat ByteArray.empty
theorem typF_size (x : Int) : (typF x).size ≤ 32 := by
  have h : ∀ k, k < 12 → (typTab.getD k ByteArray.empty).size ≤ 32 := by decide
  exact h _ (by omega)
theorem typF_at (x : Int) : typTab[(x % 12).toNat]? = some (typF x) := by
  have h : (x % 12).toNat < typTab.length := by show _ < 12; omega
  rw [typF, List.getD_eq_getElem?_getD, List.getElem?_eq_getElem h]; rfl
def typical (xs : List Int) : ByteArray := cat typF (xs.take 40)
theorem typical_size (xs : List Int) : (typical xs).size ≤ 1280 := by
  have := cat_size typF_size (xs.take 40)
  have : (xs.take 40).length ≤ 40 := by simp; omega
  unfold typical; omega
theorem law7_typical (xs : List Int) (hx : bytesOk xs) : FnOk Try.prog F.law7_typical [Lb xs] [] 0 (Tx (typical xs)) [] 0 := by
  refine fnOk tab mix G.law7_typical rfl rfl (by kernel_rfl) rfl rfl ?_
  (conv => whnf)
  obtain ⟨hx1, hx2⟩ := hx
  refine loop_intro (fun k : Nat => ⟨[(0, Lb xs), (3, Tx (cat typF (xs.take k))), (4, I k)], [], 0⟩) (fun k => k ≤ xs.length ∧ k ≤ 40) (fun k => 40 - k) [] 0 [] ⟨Nat.zero_le _, Nat.zero_le _⟩ ⟨⟨rfl, rfl, rfl, trivial⟩, trivial⟩ ?_
  rintro k ⟨hk, hk80⟩
  have hsz := cat_size typF_size (xs.take k)
  have hkk : IntKind.i64.wrap ((k : Int) + 1) = ((k + 1 : Nat) : Int) := by rw [w64] <;> omega
  (conv => whnf)
  refine ask_m (fun h => ?_) (fun h => ?_)
  · have hlt : k < xs.length := by simp at h; omega
    obtain ⟨x, hxk⟩ : ∃ x, xs[k]? = some x := ⟨_, List.getElem?_eq_getElem hlt⟩
    obtain ⟨b0, b1⟩ := hx2 x (List.mem_of_getElem? hxk)
    (conv => whnf)
    refine ask_m (fun h => ?_) (fun h => ?_)
    · have h80 : k < 40 := by have := of_decide_eq_true h; omega
      (conv => whnf)
      refine idx_and (by omega) (by simpa using hxk) ?_
      (conv => whnf)
      refine ⟨by decide, ?_⟩
      (conv => whnf)
      rw [u8mod b0 (by decide)]
      refine ⟨⟨by omega, by show _ < (12 : Int); omega⟩, ?_⟩
      refine arr_text (tb := typTab) rfl rfl (typF_at x) ?_
      (conv => whnf)
      refine ⟨?_, ?_⟩
      · have := typF_size x
        have : (xs.take k).length ≤ k := by simp; omega
        omega
      (conv => whnf)
      refine ⟨k + 1, [], ⟨hlt, h80⟩, by omega, ⟨⟨rfl, ?_, eqI hkk, trivial⟩, trivial⟩⟩
      rw [cat_succ hxk]; rfl
    · have h80 : k = 40 := by have := of_decide_eq_false h; omega
      subst h80
      (conv => whnf)
      refine ret0 ?_
      exact ret_dv rfl rfl
  · have hk : k = xs.length := by simp at h; omega
    have e : xs.take k = xs.take 40 := by rw [List.take_of_length_le (by omega), List.take_of_length_le (by omega)]
    rw [e]
    (conv => whnf)
    refine ret0 ?_
    exact ret_dv rfl rfl
theorem cmpSE : cmpB Try.prog 8 Y.SourceError = true ∧ Try.prog.eqGuardType Try.prog.depth Y.SourceError = false := ⟨by kernel_rfl, by kernel_rfl⟩
theorem gTail_args (ws : List Word) : ∀ (s : Stmt) (n : Nat), s.args.length ≤ n → ∀ t ∈ gTail s ws, t.args.length ≤ n + ws.length := by
  induction ws with
  | nil => intro s n h t ht; simp [gTail] at ht; subst ht; simpa using h
  | cons w ws ih =>
    intro s n h t ht
    by_cases he : s.line = w.line
    · rw [tail_same he] at ht
      have := ih _ (n + 1) (by simp; omega) t ht
      simp; omega
    · rw [tail_other he, group_cons] at ht
      rcases List.mem_cons.1 ht with rfl | ht
      · omega
      · have := ih ⟨w.line, w.text, []⟩ n (by simp) t ht
        simp; omega
theorem group_args (ws : List Word) : ∀ t ∈ groupOf ws, t.args.length ≤ ws.length := by
  intro t ht
  cases ws with
  | nil => cases ht
  | cons w ws =>
    rw [group_cons] at ht
    have := gTail_args ws _ 0 (by simp) t ht
    simp; omega
theorem parse_len (s : ByteArray) : (parseOf s).1.length ≤ 16386 ∧ ∀ t ∈ (parseOf s).1, t.args.length ≤ 16385 := by
  have h1 := split_len s
  have h2 := group_len (splitOf s).1
  have h3 := group_args (splitOf s).1
  unfold parseOf
  split
  · exact ⟨by simp, fun t ht => by cases ht⟩
  · split
    · exact ⟨by simp, fun t ht => by cases ht⟩
    · exact ⟨by simp only; omega, fun t ht => by have := h3 t ht; omega⟩
theorem law7_parses (s : ByteArray) : FnOk Try.prog F.law7_parses [Tx s] [] 0 (Bo true) [] 0 := by
  refine fnOk tab mix G.law7_parses rfl rfl (by kernel_rfl) rfl rfl ?_
  (conv => whnf)
  refine call_i (syntax_Parse s) ?_
  (conv => whnf)
  refine call_i (ref_Parse s) ?_
  (conv => whnf)
  obtain ⟨l1, l2⟩ := parse_len s
  refine call_i (mk_SameStatements (parseOf s).1 (parseOf s).1 true (by omega) (by omega) (fun t ht => by have := l2 t ht; omega) (fun t ht => by have := l2 t ht; omega)) ?_
  (conv => whnf)
  rw [sameSt, decide_eq_true rfl]
  (conv => whnf)
  refine ⟨cmpSE, ?_⟩
  (conv => whnf)
  refine ret0 ?_
  exact ret_b (by simp) rfl
theorem law7_awake : FnOk Try.prog F.law7_awake [] [] 0 (Bo true) [] 0 := by
  refine fnOk tab mix G.law7_awake rfl rfl (by kernel_rfl) rfl rfl ?_
  (conv => whnf)
  refine call_i (syntax_Parse ⟨#[115, 107, 105, 112, 32, 97, 32, 98, 32, 35, 32, 110, 101, 97, 114]⟩) ?_
  (conv => whnf)
  have e1 : parseOf ⟨#[115, 107, 105, 112, 32, 97, 32, 98, 32, 35, 32, 110, 101, 97, 114]⟩ = ([⟨1, wSkip, [⟨#[97]⟩, ⟨#[98]⟩]⟩], 0, 0) := by decide
  rw [e1]
  (conv => whnf)
  refine call_i (mk_SameStatements [⟨1, wSkip, [⟨#[97]⟩, ⟨#[98]⟩]⟩] [⟨1, wSkip, [⟨#[97]⟩, ⟨#[98]⟩]⟩] true (by decide) (by decide) (by decide) (by decide)) ?_
  (conv => whnf)
  refine ⟨⟨trivial, trivial⟩, ?_⟩
  (conv => whnf)
  rw [sameSt, decide_eq_true rfl]
  (conv => whnf)
  refine ret0 ?_
  exact ret_b rfl rfl
theorem law7_Parses (s : ByteArray) (xs : List Int) (hs : s.size ≤ 140737488351232) (hx : bytesOk xs) : FnOk Try.prog F.law7_SyntaxParses [Tx s, Lb xs] [] 0 (Bo true) [] 0 := by
  refine fnOk tab mix G.law7_SyntaxParses rfl rfl (by kernel_rfl) rfl rfl ?_
  (conv => whnf)
  refine call_i (law7_awake) ?_
  (conv => whnf)
  refine call_i (law7_parses s) ?_
  (conv => whnf)
  refine call_i (law7_typical xs hx) ?_
  (conv => whnf)
  refine call_i (law7_parses (typical xs)) ?_
  (conv => whnf)
  refine call_i (law7_typical xs hx) ?_
  (conv => whnf)
  have := typical_size xs
  refine ⟨by omega, ?_⟩
  (conv => whnf)
  refine call_i (law7_parses (typical xs ++ s)) ?_
  (conv => whnf)
  (conv => whnf)
  refine ret0 ?_
  exact ret_b rfl rfl
end Go.Proofs.Ytgnblfojpcjgmaa

/- law7: SyntaxArguments, SyntaxPrefix. -/
namespace Go.Proofs.Ytgnblfojpcjgmaa
open Eng
set_option maxRecDepth 10000
attribute [local irreducible] FnOk loopW idxF retX arrF findF

def argTab : List ByteArray := [wJoint, wLimit, wMass, wShape, wSkip, ⟨#[119, 111, 114, 108, 100]⟩]
def argF (x : Int) : ByteArray := argTab.getD (x % 6).toNat ByteArray.empty
theorem argF_at (x : Int) : argTab[(x % 6).toNat]? = some (argF x) := by
  have h : (x % 6).toNat < argTab.length := by show _ < 6; omega
  rw [argF, List.getD_eq_getElem?_getD, List.getElem?_eq_getElem h]; rfl
theorem law7_Arguments (w : ByteArray) (n k : Int) (hw : w.size ≤ 140737488351232) (hn : True) (hk : 0 ≤ k ∧ k < 256) : FnOk Try.prog F.law7_SyntaxArguments [Tx w, I n, By k] [] 0 (Bo true) [] 0 := by
  refine fnOk tab mix G.law7_SyntaxArguments rfl rfl (by kernel_rfl) rfl rfl ?_
  (conv => whnf)
  refine ⟨by decide, ?_⟩
  (conv => whnf)
  rw [u8mod hk.1 (by decide)]
  refine ⟨⟨by omega, by show _ < (6 : Int); omega⟩, ?_⟩
  refine arr_text (tb := argTab) rfl rfl (argF_at k) ?_
  (conv => whnf)
  refine call_i (mk_Round n 40 (by decide) (by decide)) ?_
  (conv => whnf)
  have e : IntKind.i64.wrap (n % 40 - 2) = n % 40 - 2 := by rw [w64] <;> omega
  rw [e]
  refine call_i (law7_awake) ?_
  (conv => whnf)
  refine call_i (syntax_Arguments w n) ?_
  (conv => whnf)
  refine call_i (ref_Arguments w n) ?_
  (conv => whnf)
  refine ask_mt (by simp) ?_
  (conv => whnf)
  refine call_i (syntax_Arguments (argF k) n) ?_
  (conv => whnf)
  refine call_i (ref_Arguments (argF k) n) ?_
  (conv => whnf)
  refine ask_mt (by simp) ?_
  (conv => whnf)
  refine call_i (syntax_Arguments (argF k) (n % 40 - 2)) ?_
  (conv => whnf)
  refine call_i (ref_Arguments (argF k) (n % 40 - 2)) ?_
  (conv => whnf)
  (conv => whnf)
  refine ret0 ?_
  exact ret_b (by simp) rfl

/- a description in front of another one -/
theorem byte_app {s t : ByteArray} {i : Nat} (h : i < s.size) : byteAt (s ++ t) i = byteAt s i := by
  rw [byteAt_get h, byteAt_get (s := s ++ t) (by rw [ByteArray.size_append]; omega), ByteArray.getElem_append_left h]
theorem byte_app2 {s t : ByteArray} {i : Nat} (h : i < t.size) : byteAt (s ++ t) (s.size + i) = byteAt t i := by
  rw [byteAt_get h, byteAt_get (s := s ++ t) (by rw [ByteArray.size_append]; omega), ByteArray.getElem_append_right (by omega)]
  simp
theorem ext_app {s t : ByteArray} {a b : Nat} (h : b ≤ s.size) : (s ++ t).extract a b = s.extract a b := by
  apply ByteArray.ext
  rw [ByteArray.data_extract, ByteArray.data_extract, ByteArray.data_append]
  have : b ≤ s.data.size := h
  apply Array.ext
  · simp; omega
  · intro i h1 h2
    simp at h1 h2
    rw [Array.getElem_extract, Array.getElem_extract, Array.getElem_append_left (by omega)]
theorem fin_app {s t : ByteArray} {st : SS} {k : Nat} (h : k ≤ s.size) : fin (s ++ t) st k = fin s st k := by
  unfold fin; rw [ext_app h]
theorem auto_app (s t : ByteArray) : ∀ k, k ≤ s.size → autoAt (s ++ t) k = autoAt s k
  | 0, _ => rfl
  | k + 1, h => by
    rw [auto_succ, auto_succ, auto_app s t k (by omega)]
    unfold stepS
    rw [byte_app (by omega : k < s.size), fin_app (by omega : k ≤ s.size)]
def okB (c : Int) : Bool := decide (c = 9) || decide (c = 10) || (decide (32 ≤ c) && decide (c ≤ 126))
theorem auto_ok {s : ByteArray} (hs : ∀ i, i < s.size → okB (byteAt s i) = true) : ∀ k, k ≤ s.size → (autoAt s k).bad = false
  | 0, _ => rfl
  | k + 1, h => by
    have ih := auto_ok hs k (by omega)
    have hb := hs k (by omega)
    simp [okB] at hb
    rw [auto_succ]
    unfold stepS
    repeat' split
    all_goals first | exact ih | rfl | skip
    rename_i h1 h2 h3 h4 h5 h6
    simp [wordB] at h6
    omega
/-- what a description adds to what was read before -/
theorem auto_more (u : ByteArray) (k : Nat) : ∀ d, ∃ W, (autoAt u (k + d)).words = (autoAt u k).words ++ W ∧ (∀ w ∈ W, (autoAt u k).line ≤ w.line) ∧ (autoAt u k).line ≤ (autoAt u (k + d)).line ∧ ((autoAt u k).ws = -1 → ∃ W, fin u (autoAt u (k + d)) (k + d) = (autoAt u k).words ++ W ∧ (∀ w ∈ W, (autoAt u k).line ≤ w.line)) := by
  intro d
  have finW : ∀ (st : SS) (i : Nat) (W : List Word) (ws0 : List Word) (L : Int), st.words = ws0 ++ W → (∀ w ∈ W, L ≤ w.line) → L ≤ st.line → ∃ W, fin u st i = ws0 ++ W ∧ ∀ w ∈ W, L ≤ w.line := by
    intro st i W ws0 L h1 h2 h3
    unfold fin
    split
    · refine ⟨W ++ [⟨u.extract st.ws.toNat i, st.line, st.ws - st.bgn + 1⟩], by rw [h1, List.append_assoc], fun w hw => ?_⟩
      rcases List.mem_append.1 hw with hw | hw
      · exact h2 w hw
      · simp only [List.mem_singleton] at hw; subst hw; exact h3
    · exact ⟨W, h1, h2⟩
  have key : ∃ W, (autoAt u (k + d)).words = (autoAt u k).words ++ W ∧ (∀ w ∈ W, (autoAt u k).line ≤ w.line) ∧ (autoAt u k).line ≤ (autoAt u (k + d)).line := by
    induction d with
    | zero => exact ⟨[], by simp, by simp, Int.le_refl _⟩
    | succ d ih =>
      obtain ⟨W, h1, h2, h3⟩ := ih
      rw [← Nat.add_assoc, auto_succ]
      obtain ⟨W', f1, f2⟩ := finW (autoAt u (k + d)) (k + d) W _ _ h1 h2 h3
      generalize autoAt u (k + d) = st at *
      unfold stepS
      repeat' split
      all_goals first
        | exact ⟨W, h1, h2, h3⟩
        | exact ⟨W', f1, f2, by simp only; omega⟩
  obtain ⟨W, h1, h2, h3⟩ := key
  exact ⟨W, h1, h2, h3, fun _ => finW _ _ W _ _ h1 h2 h3⟩
theorem auto_lines (s : ByteArray) : ∀ k, ∀ w ∈ (autoAt s k).words, w.line ≤ (autoAt s k).line
  | 0 => fun w hw => by cases hw
  | k + 1 => by
    have ih := auto_lines s k
    rw [auto_succ]
    have hf : ∀ w ∈ fin s (autoAt s k) k, w.line ≤ (autoAt s k).line := by
      intro w hw
      unfold fin at hw
      split at hw
      · rcases List.mem_append.1 hw with hw | hw
        · exact ih w hw
        · simp only [List.mem_singleton] at hw; subst hw; exact Int.le_refl _
      · exact ih w hw
    generalize autoAt s k = st at *
    unfold stepS
    repeat' split
    all_goals first
      | exact ih
      | exact hf
      | (intro w hw; have := hf w hw; simp only; omega)
/-- a description that is empty or ends with its line -/
def Ends (s : ByteArray) : Prop := s.size = 0 ∨ byteAt s (s.size - 1) = 10
theorem ends_ws {s : ByteArray} (h : Ends s) (hb : (autoAt s s.size).bad = false) : (autoAt s s.size).ws = -1 ∧ ∀ w ∈ (autoAt s s.size).words, w.line < (autoAt s s.size).line := by
  rcases h with h | h
  · rw [h]; exact ⟨rfl, fun w hw => by cases hw⟩
  · by_cases h0 : s.size = 0
    · rw [h0]; exact ⟨rfl, fun w hw => by cases hw⟩
    obtain ⟨k, hk⟩ : ∃ k, s.size = k + 1 := ⟨s.size - 1, by omega⟩
    rw [hk] at h hb ⊢
    rw [Nat.add_sub_cancel] at h
    have hb0 : (autoAt s k).bad = false := by
      cases hb1 : (autoAt s k).bad with
      | false => rfl
      | true => rw [auto_bad hb1 1, hb1] at hb; cases hb
    have hl := auto_lines s (k + 1)
    have hl0 := auto_lines s k
    rw [auto_succ] at hl ⊢
    unfold stepS
    rw [if_neg (by rw [hb0]; decide), if_pos h]
    refine ⟨rfl, fun w hw => ?_⟩
    simp only at hw ⊢
    unfold fin at hw
    split at hw
    · rcases List.mem_append.1 hw with hw | hw
      · have := hl0 w hw; omega
      · simp only [List.mem_singleton] at hw; subst hw; simp only; omega
    · have := hl0 w hw; omega
theorem tail_app {b : List Word} {v : Word} : ∀ (a : List Word) (s : Stmt), ¬ s.line = v.line → (∀ w ∈ a, ¬ w.line = v.line) → gTail s (a ++ v :: b) = gTail s a ++ groupOf (v :: b)
  | [], s, h, _ => by rw [List.nil_append, tail_other h]; rfl
  | w :: a, s, h, ha => by
    rw [List.cons_append]
    by_cases he : s.line = w.line
    · rw [tail_same he, tail_same he]
      exact tail_app a _ h fun w hw => ha w (by simp [hw])
    · rw [tail_other he, tail_other he, group_cons, group_cons, tail_app a _ (ha w (by simp)) fun w hw => ha w (by simp [hw])]
      rfl
theorem group_app {a b : List Word} {L : Int} (ha : ∀ w ∈ a, w.line < L) (hb : ∀ w ∈ b, L ≤ w.line) : groupOf (a ++ b) = groupOf a ++ groupOf b := by
  cases b with
  | nil => rw [List.append_nil]; exact (List.append_nil _).symm
  | cons v b =>
    have hv := hb v (by simp)
    cases a with
    | nil => rfl
    | cons w a =>
      rw [List.cons_append, group_cons, group_cons w a]
      exact tail_app a _ (by have := ha w (by simp); simp only; omega) fun w hw => by have := ha w (by simp [hw]); omega
theorem firstErr_app (b : List Stmt) : ∀ (a : List Stmt) (i : Nat), firstErr i (a ++ b) = match firstErr i a with
    | some e => some e
    | none => firstErr (i + a.length) b
  | [], i => rfl
  | s :: a, i => by
    rw [List.cons_append, firstErr, firstErr]
    split
    · rw [firstErr_app b a (i + 1), List.length_cons, show i + 1 + a.length = i + (a.length + 1) by omega]
    · rfl
theorem firstErr_ne {e : Int × Int} : ∀ (a : List Stmt) (i : Nat), firstErr i a = some e → e.1 ≠ 0
  | [], i, h => by cases h
  | s :: a, i, h => by
    rw [firstErr] at h
    split at h
    · exact firstErr_ne a _ h
    · rename_i hc
      injection h with h
      subst h; exact hc
theorem split_ok {s : ByteArray} (hs : ∀ i, i < s.size → okB (byteAt s i) = true) (hl : s.size ≤ 16384) : splitOf s = (fin s (autoAt s s.size) s.size, 0, 0) := by
  rw [splitOf, if_neg (by omega), if_neg (by rw [auto_ok hs _ (Nat.le_refl _)]; decide)]
theorem parse_prefix {s t : ByteArray} (hs : ∀ i, i < s.size → okB (byteAt s i) = true) (ht : ∀ i, i < t.size → okB (byteAt t i) = true) (he : Ends s) (hl : s.size + t.size ≤ 16384) :
    ((parseOf s).2.1 ≠ 0 → (parseOf (s ++ t)).2 = (parseOf s).2) ∧ ((parseOf s).2.1 = 0 → (parseOf (s ++ t)).2.1 = 0 → ∃ b, (parseOf (s ++ t)).1 = (parseOf s).1 ++ b) := by
  have hsz : (s ++ t).size = s.size + t.size := ByteArray.size_append
  have hu : ∀ i, i < (s ++ t).size → okB (byteAt (s ++ t) i) = true := by
    intro i hi
    by_cases h : i < s.size
    · rw [byte_app h]; exact hs i h
    · have := byte_app2 (s := s) (t := t) (i := i - s.size) (by omega)
      rw [show s.size + (i - s.size) = i by omega] at this
      rw [this]; exact ht _ (by omega)
  obtain ⟨w1, w2⟩ := ends_ws he (auto_ok hs _ (Nat.le_refl _))
  obtain ⟨_, _, _, _, hm⟩ := auto_more (s ++ t) s.size t.size
  rw [auto_app s t _ (Nat.le_refl _)] at hm
  obtain ⟨W, m1, m2⟩ := hm w1
  have e1 := split_ok hs (by omega)
  have e2 := split_ok hu (by omega)
  rw [hsz, m1] at e2
  have ef : fin s (autoAt s s.size) s.size = (autoAt s s.size).words := by rw [fin, if_neg (by omega)]
  rw [ef] at e1
  have hg := group_app w2 m2
  unfold parseOf
  rw [e1, e2]
  simp only [ne_eq, not_true, if_false]
  rw [hg, firstErr_app]
  cases h1 : firstErr 0 (groupOf (autoAt s s.size).words) with
  | some e =>
    have := firstErr_ne _ _ h1
    exact ⟨fun _ => rfl, fun h => absurd h this⟩
  | none =>
    simp only
    refine ⟨fun h => absurd trivial h, fun _ h => ?_⟩
    cases h2 : firstErr (0 + (groupOf (autoAt s s.size).words).length) (groupOf W) with
    | some e =>
      rw [h2] at h
      exact absurd h (firstErr_ne _ _ h2)
    | none => exact ⟨_, rfl⟩
theorem cat_app1 (f : Int → ByteArray) (xs : List Int) (x : Int) : cat f (xs ++ [x]) = cat f xs ++ f x := by
  rw [cat, List.foldl_append]; rfl
theorem typF_ok (x : Int) : (∀ i, i < (typF x).size → okB (byteAt (typF x) i) = true) ∧ 0 < (typF x).size ∧ byteAt (typF x) ((typF x).size - 1) = 10 := by
  have h : ∀ k, k < 12 → (∀ i, i < (typTab.getD k ByteArray.empty).size → okB (byteAt (typTab.getD k ByteArray.empty) i) = true) ∧ 0 < (typTab.getD k ByteArray.empty).size ∧ byteAt (typTab.getD k ByteArray.empty) ((typTab.getD k ByteArray.empty).size - 1) = 10 := by decide
  exact h _ (by omega)
theorem cat_typ (xs : List Int) : ∀ k, k ≤ xs.length → (∀ i, i < (cat typF (xs.take k)).size → okB (byteAt (cat typF (xs.take k)) i) = true) ∧ Ends (cat typF (xs.take k))
  | 0, _ => ⟨fun i hi => absurd hi (by show ¬ i < 0; omega), .inl rfl⟩
  | k + 1, h => by
    obtain ⟨h1, _⟩ := cat_typ xs k (by omega)
    obtain ⟨t1, t2, t3⟩ := typF_ok (xs[k]'(by omega))
    rw [cat_succ (List.getElem?_eq_getElem (by omega : k < xs.length))]
    generalize cat typF (xs.take k) = s at *
    generalize typF (xs[k]'(by omega)) = t at *
    refine ⟨fun i hi => ?_, .inr ?_⟩
    · rw [ByteArray.size_append] at hi
      by_cases hs : i < s.size
      · rw [byte_app hs]; exact h1 i hs
      · have := byte_app2 (s := s) (t := t) (i := i - s.size) (by omega)
        rw [show s.size + (i - s.size) = i by omega] at this
        rw [this]; exact t1 _ (by omega)
    · rw [ByteArray.size_append, show s.size + t.size - 1 = s.size + (t.size - 1) by omega, byte_app2 (by omega), t3]
theorem typical_ok (xs : List Int) : (∀ i, i < (typical xs).size → okB (byteAt (typical xs) i) = true) ∧ Ends (typical xs) := by
  have := cat_typ (xs.take 40) (xs.take 40).length (Nat.le_refl _)
  rwa [List.take_length] at this
theorem law7_Prefix (l m : List Int) (hl : bytesOk l) (hm : bytesOk m) : FnOk Try.prog F.law7_SyntaxPrefix [Lb l, Lb m] [] 0 (Bo true) [] 0 := by
  refine fnOk tab mix G.law7_SyntaxPrefix rfl rfl (by kernel_rfl) rfl rfl ?_
  (conv => whnf)
  refine call_i (law7_typical l hl) ?_
  (conv => whnf)
  refine call_i (syntax_Parse (typical l)) ?_
  (conv => whnf)
  refine call_i (law7_typical l hl) ?_
  (conv => whnf)
  refine call_i (law7_typical m hm) ?_
  (conv => whnf)
  have z1 := typical_size l
  have z2 := typical_size m
  refine ⟨by omega, ?_⟩
  (conv => whnf)
  refine call_i (syntax_Parse (typical l ++ typical m)) ?_
  (conv => whnf)
  obtain ⟨p1, p2⟩ := parse_prefix (typical_ok l).1 (typical_ok m).1 (typical_ok l).2 (by omega)
  obtain ⟨l1, l2⟩ := parse_len (typical l)
  obtain ⟨l3, l4⟩ := parse_len (typical l ++ typical m)
  generalize parseOf (typical l) = A at *
  generalize parseOf (typical l ++ typical m) = B at *
  obtain ⟨a, e, el⟩ := A
  obtain ⟨b, f, fl⟩ := B
  simp only at p1 p2 l1 l2 l3 l4
  refine ask_m (fun h => ?_) (fun h => ?_)
  · have h : e ≠ 0 := by simpa using h
    have h2 := p1 h
    simp only [Prod.mk.injEq] at h2
    obtain ⟨rfl, rfl⟩ := h2
    (conv => whnf)
    refine call_i (law7_awake) ?_
    (conv => whnf)
    refine ⟨cmpSE, ?_⟩
    (conv => whnf)
    refine ret0 ?_
    exact ret_b (by simp) rfl
  have h : e = 0 := by simpa using h
  (conv => whnf)
  refine call_i (law7_awake) ?_
  (conv => whnf)
  refine ask_m (fun h3 => ?_) (fun h3 => ?_)
  · (conv => whnf)
    refine ret0 ?_
    exact ret_b rfl rfl
  have h3 : f = 0 := by simpa using h3
  obtain ⟨c, rfl⟩ := p2 h h3
  (conv => whnf)
  refine ask_mt (by simp; omega) ?_
  (conv => whnf)
  refine ⟨⟨by omega, by simp; omega⟩, ?_⟩
  (conv => whnf)
  have e1 : ((((a ++ c).map encSt).take ((a.map encSt).length : Int).toNat).drop 0) = a.map encSt := by simp
  simp only at e1 ⊢
  rw [e1]
  refine call_i (mk_SameStatements a a true (by omega) (by omega) (fun t ht => by have := l2 t ht; omega) (fun t ht => by have := l2 t ht; omega)) ?_
  (conv => whnf)
  rw [sameSt, decide_eq_true rfl]
  (conv => whnf)
  refine ret0 ?_
  exact ret_b rfl rfl
end Go.Proofs.Ytgnblfojpcjgmaa

/- ref.Decimal. -/
namespace Go.Proofs.Ytgnblfojpcjgmaa
open Eng
set_option maxRecDepth 10000
attribute [local irreducible] FnOk loopW idxF retX arrF

def dig (d : Nat) : ByteArray := ⟨#[(48 + d).toUInt8]⟩
/-- the last k digits of n -/
def decB : Nat → Nat → ByteArray
  | 0, _ => ByteArray.empty
  | k + 1, n => dig (n / 10 ^ k % 10) ++ decB k n
theorem dig_cut (d : Nat) (h : d < 10) : (ByteArray.mk #[48, 49, 50, 51, 52, 53, 54, 55, 56, 57]).extract d (d + 1) = dig d := by
  have h' : ∀ d, d < 10 → (ByteArray.mk #[48, 49, 50, 51, 52, 53, 54, 55, 56, 57]).extract d (d + 1) = dig d := by decide
  exact h' d h
theorem decB_size (k n : Nat) : (decB k n).size = k := by
  induction k with
  | zero => rfl
  | succ k ih => rw [decB, ByteArray.size_append, ih]; show 1 + k = k + 1; omega
theorem ref_Decimal (n k j : Nat) (hn : n ≤ 9223372036854775807) (h0 : n / 10 ^ j = 0) (h1 : k ≤ j) (hj : j ≤ 1000) (hmin : ∀ i, i < j → ¬ (n / 10 ^ i = 0 ∧ k ≤ i)) : FnOk Try.prog F.ref6_Decimal [I n, I k] [] 0 (Tx (decB j n)) [] 0 := by
  refine fnOk tab mix G.ref6_Decimal rfl rfl (by kernel_rfl) rfl rfl ?_
  (conv => whnf)
  refine loop_intro (fun i : Nat => ⟨[(0, I (n / 10 ^ i : Nat)), (1, I k), (5, Tx (decB i n))], [], 0⟩) (fun i => i ≤ j) (fun i => j - i) [] 0 [] (Nat.zero_le _) ⟨⟨eqI (by simp), rfl, rfl, trivial⟩, trivial⟩ ?_
  rintro i hi
  have hsz := decB_size i n
  have hlt : ¬ (n / 10 ^ i = 0 ∧ k ≤ i) → i < j := fun h => Nat.lt_of_le_of_ne hi fun e => h ⟨e ▸ h0, e ▸ h1⟩
  have hmin' := hmin i
  have hnext : n / 10 ^ (i + 1) = n / 10 ^ i / 10 := by rw [Nat.pow_succ, Nat.div_div_eq_div_mul]
  have hdec : decB (i + 1) n = dig (n / 10 ^ i % 10) ++ decB i n := rfl
  have hdiv : n / 10 ^ i ≤ n := Nat.div_le_self _ _
  generalize n / 10 ^ i = d at *
  have h3 : ((d : Nat) : Int).tmod 10 = ((d % 10 : Nat) : Int) := by rw [Int.tmod_eq_emod_of_nonneg (by omega)]; omega
  have h4 : IntKind.i64.wrap ((d : Int).tdiv 10) = ((d / 10 : Nat) : Int) := by rw [Int.tdiv_eq_ediv_of_nonneg (by omega), w64 (by omega) (by omega)]; omega
  have h5 : IntKind.i64.wrap (((d % 10 : Nat) : Int) + 1) = ((d % 10 + 1 : Nat) : Int) := by rw [w64 (by omega) (by omega)]; omega
  (conv => whnf)
  refine ask_m (fun h => ?_) (fun h => ?_)
  rotate_left
  (conv => whnf)
  refine ask_m (fun h => ?_) (fun h => ?_)
  rotate_left
  · have e : i = j := by
      rename_i h'
      simp at h h'
      exact Nat.le_antisymm hi (Nat.le_of_not_lt fun hij => hmin' hij ⟨by omega, by omega⟩)
    subst e
    (conv => whnf)
    refine ret0 ?_
    exact ret_dv rfl rfl
  all_goals
    have hij : i < j := hlt (by simp at h; omega)
    (conv => whnf)
    refine ⟨by omega, ?_⟩
    (conv => whnf)
    rw [h3, h5]
    refine ⟨⟨by omega, by omega, by show _ ≤ (10 : Int); omega⟩, ?_⟩
    (conv => whnf)
    rw [Int.toNat_natCast, Int.toNat_natCast, dig_cut _ (by omega)]
    refine ⟨by rw [hsz]; show 1 + i ≤ _; omega, ?_⟩
    (conv => whnf)
    refine ⟨by omega, ?_⟩
    (conv => whnf)
    refine ⟨i + 1, [], hij, by omega, ⟨⟨eqI (by rw [h4, hnext]), rfl, ?_, trivial⟩, trivial⟩⟩
    rw [hdec]; rfl
end Go.Proofs.Ytgnblfojpcjgmaa

/- Digits of decimal texts. No program in sight. -/
namespace Go.Proofs.Ytgnblfojpcjgmaa
open Eng
set_option maxRecDepth 10000

theorem byteAt_app {a b : ByteArray} {i : Nat} : byteAt (a ++ b) i = if i < a.size then byteAt a i else byteAt b (i - a.size) := by
  by_cases h1 : i < a.size
  · have h : i < (a ++ b).size := by rw [ByteArray.size_append]; omega
    rw [if_pos h1, byteAt_get h, byteAt_get h1, ByteArray.getElem_append_left h1]
  · rw [if_neg h1]
    by_cases h2 : i - a.size < b.size
    · have h : i < (a ++ b).size := by rw [ByteArray.size_append]; omega
      rw [byteAt_get h, byteAt_get h2, ByteArray.getElem_append_right (by omega)]
    · have g1 : ∀ (s : ByteArray) (k : Nat), s.size ≤ k → byteAt s k = 0 := fun s k hk => by
        unfold byteAt; rw [getElem?_neg s k (by omega)]; rfl
      rw [g1 _ _ (by rw [ByteArray.size_append]; omega), g1 _ _ (by omega)]
theorem dig_byte {d : Nat} (h : d < 10) : byteAt (dig d) 0 = 48 + d := by
  have : ∀ d, d < 10 → byteAt (dig d) 0 = 48 + (d : Int) := by decide
  exact this d h
theorem decB_byte (n : Nat) : ∀ (k i : Nat), i < k → byteAt (decB k n) i = 48 + (n / 10 ^ (k - 1 - i) % 10 : Nat)
  | 0, _, h => by omega
  | k + 1, i, h => by
    rw [decB, byteAt_app]
    have hs : (dig (n / 10 ^ k % 10)).size = 1 := rfl
    rw [hs]
    by_cases h0 : i < 1
    · obtain rfl : i = 0 := by omega
      rw [if_pos h0, dig_byte (by omega)]; simp
    · rw [if_neg h0, decB_byte n k (i - 1) (by omega)]
      rw [show k - 1 - (i - 1) = k + 1 - 1 - i by omega]
end Go.Proofs.Ytgnblfojpcjgmaa

/- Variables that hold robots and scenes. -/
namespace Go.Proofs.Ytgnblfojpcjgmaa
open Eng
abbrev bRo (r : Robot) : Box := .vars Y.Robot [.dv (dJs r.joints), .dv (dMs r.masses)]
abbrev bSc (s : Scene) : Box := .vars Y.Scene [.dv (dJs s.robot.joints), .dv (dMs s.robot.masses), .dv (dShs s.shapes), .dv (dSks s.skips)]
end Go.Proofs.Ytgnblfojpcjgmaa

/- The reference's numbers and names as words: ref.Format, written, kindName, linkName. -/
namespace Go.Proofs.Ytgnblfojpcjgmaa
open Eng
set_option maxRecDepth 10000
attribute [local irreducible] FnOk loopW idxF retX arrF

/-- how many digits a number has, at least k -/
def dl : Nat → Nat → Nat → Nat
  | 0, _, _ => 0
  | f + 1, n, k => if n = 0 ∧ k = 0 then 0 else dl f (n / 10) (k - 1) + 1
theorem dl_spec : ∀ (f n k : Nat), n < 10 ^ f → k ≤ f → n / 10 ^ dl f n k = 0 ∧ k ≤ dl f n k ∧ dl f n k ≤ f ∧ ∀ i, i < dl f n k → ¬ (n / 10 ^ i = 0 ∧ k ≤ i)
  | 0, n, k, hn, hk => by
    have : n = 0 := by simpa using hn
    subst this
    exact ⟨by simp, hk, Nat.le_refl _, fun i hi => absurd hi (Nat.not_lt_zero _)⟩
  | f + 1, n, k, hn, hk => by
    rw [dl]
    split
    · rename_i h
      exact ⟨by simp [h.1], by omega, by omega, fun i hi => absurd hi (Nat.not_lt_zero _)⟩
    · rename_i h
      obtain ⟨a, b, c, d⟩ := dl_spec f (n / 10) (k - 1) (by rw [Nat.pow_succ] at hn; omega) (by omega)
      have e : ∀ i, n / 10 ^ (i + 1) = n / 10 / 10 ^ i := fun i => by rw [Nat.pow_succ', Nat.div_div_eq_div_mul]
      refine ⟨by rw [e]; exact a, by omega, by omega, fun i hi => ?_⟩
      cases i with
      | zero => rintro ⟨h1, h2⟩; exact h ⟨by simpa using h1, by omega⟩
      | succ i => rintro ⟨h1, h2⟩; rw [e] at h1; exact d i (by omega) ⟨h1, by omega⟩
def decT (n k : Nat) : ByteArray := decB (dl 20 n k) n
theorem dl20 {n k : Nat} (hn : n ≤ 9223372036854775807) (hk : k ≤ 20) : n / 10 ^ dl 20 n k = 0 ∧ k ≤ dl 20 n k ∧ dl 20 n k ≤ 20 ∧ ∀ i, i < dl 20 n k → ¬ (n / 10 ^ i = 0 ∧ k ≤ i) :=
  dl_spec 20 n k (Nat.lt_of_le_of_lt hn (by decide)) hk
theorem decT_size {n k : Nat} (hn : n ≤ 9223372036854775807) (hk : k ≤ 20) : (decT n k).size ≤ 20 ∧ k ≤ (decT n k).size := by
  obtain ⟨_, b, c, _⟩ := dl20 hn hk
  rw [decT, decB_size]; exact ⟨c, b⟩
theorem ref_DecimalT (n k : Nat) (hn : n ≤ 9223372036854775807) (hk : k ≤ 20) : FnOk Try.prog F.ref6_Decimal [I n, I k] [] 0 (Tx (decT n k)) [] 0 := by
  obtain ⟨a, b, c, d⟩ := dl20 hn hk
  exact ref_Decimal n k _ hn a b (by omega) d
/-- without the zeros at the end -/
def trimN (t : ByteArray) : Nat → Nat
  | 0 => 0
  | n + 1 => if byteAt t n = 48 then trimN t n else n + 1
theorem trimN_le (t : ByteArray) : ∀ n, trimN t n ≤ n
  | 0 => Nat.le_refl _
  | n + 1 => by
    rw [trimN]; split
    · have := trimN_le t n; omega
    · exact Nat.le_refl _
def minusT : ByteArray := ⟨#[45]⟩
def dotT : ByteArray := ⟨#[46]⟩
def clampI (n : Int) : Int := max (-2147483648) (min n 2147483648)
def fracT (f : Nat) : ByteArray := (decT ((2 * f * 100000 + 65536) / 131072) 5).extract 0 (trimN (decT ((2 * f * 100000 + 65536) / 131072) 5) (decT ((2 * f * 100000 + 65536) / 131072) 5).size)
def fmtS (s : ByteArray) (a : Nat) : ByteArray := if a % 65536 = 0 then s ++ decT (a / 65536) 1 else ((s ++ decT (a / 65536) 1) ++ dotT) ++ fracT (a % 65536)
def fmtT (n : Int) : ByteArray := fmtS (if clampI n < 0 then minusT else ByteArray.empty) (clampI n).natAbs
theorem digs_zero (n : Nat) : ∀ k, (∀ i, i < k → n / 10 ^ i % 10 = 0) → n % 10 ^ k = 0
  | 0, _ => by simp [Nat.mod_one]
  | k + 1, h => by
    rw [Nat.mod_pow_succ, digs_zero n k fun i hi => h i (by omega), h k (by omega), Nat.mul_zero]
theorem decT_some {v : Nat} (h1 : 1 ≤ v) (h2 : v ≤ 99999) : ∃ i, i < (decT v 5).size ∧ byteAt (decT v 5) i ≠ 48 := by
  obtain ⟨a, b, c, d⟩ := dl20 (n := v) (k := 5) (by omega) (by omega)
  rw [decT, decB_size]
  generalize dl 20 v 5 = j at *
  by_cases hex : ∃ i, i < j ∧ v / 10 ^ i % 10 ≠ 0
  · obtain ⟨i, hi, hne⟩ := hex
    refine ⟨j - 1 - i, by omega, ?_⟩
    rw [decB_byte v j _ (by omega), show j - 1 - (j - 1 - i) = i by omega]
    omega
  · have := digs_zero v j fun i hi => Classical.byContradiction fun hne => hex ⟨i, hi, hne⟩
    have hlt : v < 10 ^ j := by
      rcases Nat.lt_or_ge v (10 ^ j) with h | h
      · exact h
      · have := Nat.div_pos h (Nat.pow_pos (by decide : 0 < 10)); omega
    rw [Nat.mod_eq_of_lt hlt] at this
    omega
theorem ext_byte {t : ByteArray} {k i : Nat} (hk : k ≤ t.size) (hi : i < k) : byteAt (t.extract 0 k) i = byteAt t i := by
  have hs : (t.extract 0 k).size = k := by simp; omega
  rw [byteAt_get (by omega), byteAt_get (by omega : i < t.size), ByteArray.getElem_extract]
  congr 2
  simp
theorem ext_ext {t : ByteArray} {k j : Nat} (hk : j ≤ k) (hk2 : k ≤ t.size) : (t.extract 0 k).extract 0 j = t.extract 0 j := by
  rw [ByteArray.extract_extract]; congr 1; omega
theorem ref_Format (n : Int) : FnOk Try.prog F.ref6_Format [I n] [] 0 (Tx (fmtT n)) [] 0 := by
  refine fnOk tab mix G.ref6_Format rfl rfl (by kernel_rfl) rfl rfl ?_
  (conv => whnf)
  have hX : max (-2147483648 : Int) (min n 2147483648) = clampI n := rfl
  rw [hX]
  have hb : -2147483648 ≤ clampI n ∧ clampI n ≤ 2147483648 := by unfold clampI; omega
  have hF : fmtT n = fmtS (if clampI n < 0 then minusT else ByteArray.empty) (clampI n).natAbs := rfl
  rw [hF]
  clear hX hF
  generalize clampI n = x at *
  refine ask_m (fun h => ?_) (fun h => ?_)
  case' refine_1 =>
    have h : x < 0 := by simpa using h
    rw [if_pos h]
    obtain ⟨a, ha⟩ : ∃ a : Nat, x = - (a : Int) := ⟨x.natAbs, by omega⟩
    have hna : x.natAbs = a := by omega
    have hw : IntKind.i64.wrap (0 - x) = (a : Int) := by rw [w64] <;> omega
    rw [hna]
    have hsg : minusT.size ≤ 1 := by decide
    obtain ⟨sgn, hsgn⟩ : ∃ sgn : ByteArray, sgn = minusT := ⟨_, rfl⟩
    rw [← hsgn]
    have hab : a ≤ 2147483648 := by omega
    (conv => whnf)
    rw [hw]
  case' refine_2 =>
    have h : ¬ x < 0 := by simpa using h
    rw [if_neg h]
    obtain ⟨a, ha⟩ : ∃ a : Nat, x = (a : Int) := ⟨x.natAbs, by omega⟩
    have hna : x.natAbs = a := by omega
    rw [hna]
    have hsg : ByteArray.empty.size ≤ 1 := by decide
    obtain ⟨sgn, hsgn⟩ : ∃ sgn : ByteArray, sgn = ByteArray.empty := ⟨_, rfl⟩
    rw [← hsgn]
    have hab : a ≤ 2147483648 := by omega
    subst ha
    (conv => whnf)
  all_goals
    have q1 : IntKind.i64.wrap ((a : Int).tdiv 65536) = ((a / 65536 : Nat) : Int) := by rw [Int.tdiv_eq_ediv_of_nonneg (by omega), w64 (by omega) (by omega)]; omega
    have q2 : (a : Int).tmod 65536 = ((a % 65536 : Nat) : Int) := by rw [Int.tmod_eq_emod_of_nonneg (by omega)]; omega
    have z1 := decT_size (n := a / 65536) (k := 1) (by omega) (by omega)
    refine ⟨(by decide : (65536 : Int) ≠ 0), ?_⟩
    (conv => whnf)
    rw [q1]
    refine call_i (ref_DecimalT (a / 65536) 1 (by omega) (by omega)) ?_
    (conv => whnf)
    refine ⟨(Nat.le_trans (Nat.add_le_add hsg z1.1) (by decide)), ?_⟩
    (conv => whnf)
    refine ⟨(by decide : (65536 : Int) ≠ 0), ?_⟩
    (conv => whnf)
    rw [q2]
    refine ask_m (fun h0 => ?_) (fun h0 => ?_)
    · have h0 : a % 65536 = 0 := by simp at h0; omega
      (conv => whnf)
      refine ret0 ?_
      exact ret_dv (by rw [fmtS, if_pos h0, hsgn]; rfl) rfl
    have h0 : ¬ a % 65536 = 0 := by simp at h0; omega
    rw [fmtS, if_neg h0]
    have hf1 : 1 ≤ a % 65536 ∧ a % 65536 ≤ 65535 := by omega
    generalize a % 65536 = f at *
    have q3 : IntKind.i64.wrap ((IntKind.i64.wrap (IntKind.i64.wrap (IntKind.i64.wrap (2 * (f : Int)) * 100000) + 65536)).tdiv 131072) = (((2 * f * 100000 + 65536) / 131072 : Nat) : Int) := by
      rw [w64 (x := 2 * (f : Int)) (by omega) (by omega), w64 (x := 2 * (f : Int) * 100000) (by omega) (by omega), w64 (x := 2 * (f : Int) * 100000 + 65536) (by omega) (by omega), Int.tdiv_eq_ediv_of_nonneg (by omega), w64 (by omega) (by omega)]; omega
    have hv : 1 ≤ (2 * f * 100000 + 65536) / 131072 ∧ (2 * f * 100000 + 65536) / 131072 ≤ 99999 := by omega
    (conv => whnf)
    refine ⟨(by decide : (131072 : Int) ≠ 0), ?_⟩
    (conv => whnf)
    rw [q3]
    refine call_i (ref_DecimalT ((2 * f * 100000 + 65536) / 131072) 5 (by omega) (by omega)) ?_
    (conv => whnf)
    have hs := decT_some hv.1 hv.2
    have z2 := decT_size (n := (2 * f * 100000 + 65536) / 131072) (k := 5) (by omega) (by omega)
    rw [fracT]
    generalize decT ((2 * f * 100000 + 65536) / 131072) 5 = t at *
    rw [← hsgn] at hsg
    generalize decT (a / 65536) 1 = d at *
    refine loop_intro (fun k : Nat => ⟨[(4, Tx (sgn ++ d)), (6, Tx (t.extract 0 k))], [], 0⟩) (fun k => k ≤ t.size ∧ trimN t k = trimN t t.size ∧ ∃ i, i < k ∧ byteAt t i ≠ 48) (fun k => k) [] t.size [] ⟨Nat.le_refl _, rfl, hs⟩ ⟨⟨congrArg Tx (by rw [hsgn]; rfl), congrArg Tx (by simp), trivial⟩, trivial⟩ ?_
    rintro k ⟨hk, htr, i, hi, hne⟩
    have hsz : (t.extract 0 k).size = k := by simp; omega
    have hk1 : IntKind.i64.wrap (((t.extract 0 k).size : Int) - 1) = ((k - 1 : Nat) : Int) := by rw [hsz, w64] <;> omega
    (conv => whnf)
    rw [hk1]
    refine ⟨⟨by omega, by rw [hsz]; omega⟩, ?_⟩
    (conv => whnf)
    rw [Int.toNat_natCast, ext_byte hk (by omega)]
    rw [show k = k - 1 + 1 by omega, trimN] at htr
    refine ask_m (fun h8 => ?_) (fun h8 => ?_)
    · have h8 : byteAt t (k - 1) = 48 := by simpa using h8
      rw [if_pos h8] at htr
      (conv => whnf)
      rw [hk1]
      refine ⟨⟨by omega, by rw [hsz]; omega⟩, ?_⟩
      (conv => whnf)
      rw [Int.toNat_natCast]
      refine ⟨k - 1, [], ⟨by omega, htr, i, ?_, hne⟩, by omega, ⟨⟨rfl, congrArg Tx (ext_ext (by omega) hk), trivial⟩, trivial⟩⟩
      rcases Nat.lt_or_ge i (k - 1) with h | h
      · exact h
      · rw [show i = k - 1 by omega] at hne; exact absurd h8 hne
    · have h8 : ¬ byteAt t (k - 1) = 48 := by simpa using h8
      rw [if_neg h8, show k - 1 + 1 = k by omega] at htr
      rw [← htr]
      (conv => whnf)
      refine ⟨(by rw [ByteArray.size_append]; show _ + 1 ≤ _; omega), ?_⟩
      (conv => whnf)
      refine ⟨(by rw [ByteArray.size_append, ByteArray.size_append, hsz]; show _ + 1 + _ ≤ _; omega), ?_⟩
      (conv => whnf)
      (conv => whnf)
      refine ret0 ?_
      exact ret_dv rfl rfl
def kindTab : List ByteArray := [⟨#[102, 105, 120, 101, 100]⟩, ⟨#[116, 117, 114, 110, 120]⟩, ⟨#[116, 117, 114, 110, 121]⟩, ⟨#[116, 117, 114, 110, 122]⟩, ⟨#[115, 108, 105, 100, 101, 120]⟩, ⟨#[115, 108, 105, 100, 101, 121]⟩, ⟨#[115, 108, 105, 100, 101, 122]⟩]
def kindN (k : Int) : ByteArray := kindTab.getD k.toNat ByteArray.empty
theorem kindN_at {k : Int} (h0 : 0 ≤ k) (h6 : k ≤ 6) : kindTab[k.toNat]? = some (kindN k) := by
  have h : k.toNat < kindTab.length := by show _ < 7; omega
  rw [kindN, List.getD_eq_getElem?_getD, List.getElem?_eq_getElem h]; rfl
theorem ref_kindName (k : Int) (h0 : 0 ≤ k) (h6 : k ≤ 6) : FnOk Try.prog F.ref6_kindName [I k] [] 0 (Tx (kindN k)) [] 0 := by
  refine fnOk tab mix G.ref6_kindName rfl rfl (by kernel_rfl) rfl rfl ?_
  (conv => whnf)
  refine ⟨⟨by omega, by show _ < (7 : Int); omega⟩, ?_⟩
  refine arr_text (tb := kindTab) rfl rfl (kindN_at h0 h6) ?_
  (conv => whnf)
  refine ret0 ?_
  exact ret_dv rfl rfl
def linkN (js : List Joint) (k : Int) : ByteArray := if k = -1 then worldT else match js[k.toNat]? with
  | some j => j.name
  | none => ByteArray.empty
theorem ref_linkName (r : Robot) (k : Int) (h0 : -1 ≤ k) (h1 : k < r.joints.length) : FnOk Try.prog F.ref6_linkName [Ro r, I k] [] 0 (Tx (linkN r.joints k)) [] 0 := by
  refine fnOk tab mix G.ref6_linkName rfl rfl (by kernel_rfl) rfl rfl ?_
  (conv => whnf)
  refine ask_m (fun h => ?_) (fun h => ?_)
  · have h : k = -1 := of_decide_eq_true h
    (conv => whnf)
    refine ret0 ?_
    exact ret_dv (by rw [linkN, if_pos h]; rfl) rfl
  have h : ¬ k = -1 := of_decide_eq_false h
  obtain ⟨n, rfl⟩ : ∃ n : Nat, k = n := ⟨k.toNat, by omega⟩
  obtain ⟨j, hj⟩ : ∃ j, r.joints[n]? = some j := ⟨_, List.getElem?_eq_getElem (by omega)⟩
  (conv => whnf)
  refine idx_and (by omega) (by simpa using hj) ?_
  (conv => whnf)
  refine ret0 ?_
  exact ret_dv (by rw [linkN, if_neg h, Int.toNat_natCast, hj]) rfl
theorem ref_written (xs : List Int) (hl : xs.length ≤ 1000) : FnOk Try.prog F.ref6_written [Li xs] [] 0 (.one (.dv (.lst 1 ((xs.map fmtT).map encA)))) [] 0 := by
  refine fnOk tab mix G.ref6_written rfl rfl (by kernel_rfl) rfl rfl ?_
  (conv => whnf)
  refine loop_intro (fun k : Nat => ⟨[(0, Li xs), (3, .one (.row 0)), (4, I k)], [(0, .rows Y.string 1 (((xs.take k).map fmtT).map encA))], 1⟩) (fun k => k ≤ xs.length) (fun k => xs.length - k) [.own 3 Y.string 1] 0 [] (Nat.zero_le _) ⟨⟨rfl, rfl, rfl, trivial⟩, ⟨rfl, trivial⟩⟩ ?_
  rintro k hk
  have hkk : IntKind.i64.wrap ((k : Int) + 1) = ((k + 1 : Nat) : Int) := by rw [w64] <;> omega
  (conv => whnf)
  refine ask_m (fun h => ?_) (fun h => ?_)
  · have hlt : k < xs.length := by simpa using h
    obtain ⟨x, hx⟩ : ∃ x, xs[k]? = some x := ⟨_, List.getElem?_eq_getElem hlt⟩
    (conv => whnf)
    refine idx_and (by omega) (by simpa using hx) ?_
    (conv => whnf)
    refine call_i (ref_Format x) ?_
    (conv => whnf)
    refine ⟨⟨by simp; omega, by simp; omega⟩, ?_⟩
    (conv => whnf)
    refine ⟨k + 1, [(0, 2)], hlt, by omega, ⟨⟨rfl, rfl, eqI hkk, trivial⟩, ⟨?_, trivial⟩⟩⟩
    exact congrArg (Box.rows Y.string 1) (show ((xs.take k).map fmtT).map encA ++ [[.str (fmtT x)]] = ((xs.take (k + 1)).map fmtT).map encA by rw [List.take_add_one, hx]; simp [encA])
  · have hk : k = xs.length := by simp at h; omega
    subst hk
    (conv => whnf)
    refine retO [.frz 0] ?_
    (conv => whnf)
    exact ⟨[], ⟨congrArg (fun q => SV.one (.dv (.lst 1 q))) (show ((xs.take xs.length).map fmtT).map encA = _ by rw [List.take_length]), trivial⟩, trivial⟩
end Go.Proofs.Ytgnblfojpcjgmaa

/- Names. No program in sight. -/
namespace Go.Proofs.Ytgnblfojpcjgmaa
open Eng
set_option maxRecDepth 10000

theorem nameB_low {i : Nat} {c : Int} (h : nameB i c = true) : c < 128 := by
  simp only [nameB, letterB, digitB, Bool.or_eq_true, Bool.and_eq_true, decide_eq_true_eq] at h
  omega
theorem dec_name {s : ByteArray} {i : Nat} (h : i < s.size) : nameB i (Utf8.decode s i).1 = nameB i (byteAt s i) ∧ (nameB i (byteAt s i) = true → (Utf8.decode s i).2 = 1) := by
  have hb := byteAt_get h
  by_cases ha : (s[i]'h).toNat < 128
  · rw [decode_ascii s i h ha, hb]; exact ⟨rfl, fun _ => rfl⟩
  · have := (decode_high s i h (by omega)).1
    have h1 : nameB i (byteAt s i) = false := by
      rcases hn : nameB i (byteAt s i) with _ | _
      · rfl
      · have := nameB_low hn; omega
    have h2 : nameB i ((Utf8.decode s i).1 : Int) = false := by
      rcases hn : nameB i ((Utf8.decode s i).1 : Int) with _ | _
      · rfl
      · have := nameB_low hn; omega
    rw [h1, h2]; exact ⟨rfl, fun h => by cases h⟩
theorem names_take {s : ByteArray} {k : Nat} (h : ((List.range k).all fun i => nameB i (byteAt s i)) = true) (hk : nameB k (byteAt s k) = true) : ((List.range (k + 1)).all fun i => nameB i (byteAt s i)) = true := by
  rw [List.range_succ, List.all_append, h]; simp [hk]
theorem name_not {s : ByteArray} {k : Nat} (hk : k < s.size) (h : nameB k (byteAt s k) = false) : nameOk s = false := by
  have : ((List.range s.size).all fun i => nameB i (byteAt s i)) = false := by
    rw [List.all_eq_false]; exact ⟨k, by simpa using hk, by simp [h]⟩
  simp [nameOk, this]
end Go.Proofs.Ytgnblfojpcjgmaa

/- The reference's Name. -/
namespace Go.Proofs.Ytgnblfojpcjgmaa
open Eng
set_option maxRecDepth 10000
attribute [local irreducible] FnOk loopW idxF retX arrF

theorem ref_Name (s : ByteArray) : FnOk Try.prog F.ref6_Name [Tx s] [] 0 (Bo (nameOk s)) [] 0 := by
  refine fnOk tab mix G.ref6_Name rfl rfl (by kernel_rfl) rfl rfl ?_
  (conv => whnf)
  refine ask_m (fun h => ?_) (fun h => ?_)
  · (conv => whnf)
    refine ret0 ?_
    exact ret_b (by have : ¬ 1 ≤ s.size := by have := of_decide_eq_true h; omega
                    simp [nameOk, this]) rfl
  have h1 : 1 ≤ s.size := by have := of_decide_eq_false h; omega
  (conv => whnf)
  refine ask_m (fun h => ?_) (fun h => ?_)
  · (conv => whnf)
    refine ret0 ?_
    exact ret_b (by have : ¬ s.size ≤ 16 := by have := of_decide_eq_true h; omega
                    simp [nameOk, this]) rfl
  have h2 : s.size ≤ 16 := by have := of_decide_eq_false h; omega
  (conv => whnf)
  refine ask_m (fun h => ?_) (fun h => ?_)
  · (conv => whnf)
    refine ret0 ?_
    exact ret_b (by have : s = worldT := of_decide_eq_true h
                    subst this; rfl) rfl
  have h3 : decide (s = worldT) = false := h
  (conv => whnf)
  refine loop_intro (fun k : Nat => ⟨[(0, Tx s), (3, I k)], [], 0⟩) (fun k => k ≤ s.size ∧ ((List.range k).all fun i => nameB i (byteAt s i)) = true) (fun k => s.size - k) [] 0 [] ⟨Nat.zero_le _, rfl⟩ ⟨⟨rfl, rfl, trivial⟩, trivial⟩ ?_
  rintro k ⟨hk, hall⟩
  have hkk : IntKind.i64.wrap ((k : Int) + 1) = ((k + 1 : Nat) : Int) := by rw [w64] <;> omega
  (conv => whnf)
  refine ask_m (fun h => ?_) (fun h => ?_)
  · have hlt : k < s.size := by have := of_decide_eq_true h; omega
    have bad : nameB k (byteAt s k) = false → nameOk s = false := name_not hlt
    have good : nameB k (byteAt s k) = true → ((List.range (k + 1)).all fun i => nameB i (byteAt s i)) = true := fun h => names_take hall h
    have hN : nameB k (byteAt s k) = (letterB (byteAt s k) || (decide (k ≠ 0) && (digitB (byteAt s k) || decide (byteAt s k = 95)))) := rfl
    have ix : ((0 : Int) ≤ k ∧ (k : Int) < s.size) := ⟨by omega, by omega⟩
    have e1 : byteAt s (k : Int).toNat = byteAt s k := rfl
    clear h
    repeat' ((conv => whnf); first | refine ask_m (fun h => ?_) (fun h => ?_) | refine ⟨ix, ?_⟩ | refine ret0 ?_)
    all_goals (try rw [e1] at *)
    all_goals generalize byteAt s k = c at *
    all_goals first
      | (refine ret_b (bad ?_).symm rfl; clear bad good; simp_all [letterB, digitB]; done)
      | (refine ret_b (bad ?_).symm rfl; clear bad good; simp_all [letterB, digitB]; omega)
      | (refine ⟨k + 1, [], ⟨hlt, good ?_⟩, by omega, ⟨⟨rfl, eqI hkk, trivial⟩, trivial⟩⟩; clear bad good; simp_all [letterB, digitB]; done)
      | (refine ⟨k + 1, [], ⟨hlt, good ?_⟩, by omega, ⟨⟨rfl, eqI hkk, trivial⟩, trivial⟩⟩; clear bad good; simp_all [letterB, digitB]; omega)
  · have hk : k = s.size := by have := of_decide_eq_false h; omega
    subst hk
    (conv => whnf)
    refine ret0 ?_
    exact ret_b (by simp [nameOk, h1, h2, h3, hall]) rfl
end Go.Proofs.Ytgnblfojpcjgmaa

/- Finding joints. No program in sight. -/
namespace Go.Proofs.Ytgnblfojpcjgmaa
open Eng
set_option maxRecDepth 10000

theorem find_at : ∀ {js : List Joint} {i k : Nat} {j : Joint}, js[i]? = some j → (∀ (i' : Nat) (j' : Joint), i' < i → js[i']? = some j' → j'.name ≠ j.name) → find js j.name k = ((k + i : Nat) : Int)
  | [], _, _, _, h, _ => by simp at h
  | x :: js, 0, k, j, h, _ => by
    simp at h; subst h
    rw [find, if_pos rfl]; rfl
  | x :: js, i + 1, k, j, h, hn => by
    have h1 := hn 0 x (by omega) rfl
    rw [find, if_neg h1, find_at (i := i) (k := k + 1) (by simpa using h) fun i' j' hi hj => hn (i' + 1) j' (by omega) (by simpa using hj)]
    omega
theorem jointsErr_zero {js : List Joint} : ∀ {l : List Joint} {i : Nat}, (∀ (k : Nat) (j : Joint), l[k]? = some j → jointErr js (i + k) j = 0) → jointsErr js i l = 0
  | [], _, _ => rfl
  | x :: l, i, h => by
    have h0 : jointErr js i x = 0 := h 0 x rfl
    rw [jointsErr, if_pos h0]
    exact jointsErr_zero fun k j hj => by
      have := h (k + 1) j (by simpa using hj)
      rw [← this]; congr 1; omega
theorem reach_cases (k : Int) : reach k = 0 ∨ reach k = 524288 ∨ reach k = 4194304 := by
  unfold reach; repeat' split
  all_goals simp
def bodyOk (i : Nat) (j : Joint) : Prop := (0 ≤ j.kind ∧ j.kind ≤ 6) ∧ (-1 ≤ j.parent ∧ j.parent < (i : Int)) ∧ inV j.off 4194304 = true ∧ (j.lo ≤ j.hi ∧ - reach j.kind ≤ j.lo ∧ j.hi ≤ reach j.kind) ∧ (from1 j.weight 1024 && from1 j.speed 1048576 && from1 j.accel 1048576 && from1 j.torque 1099511627776) = true
theorem jointErr_zero {js : List Joint} {i : Nat} {j : Joint} (h1 : nameOk j.name = true) (h2 : find js j.name 0 = i) (h : bodyOk i j) : jointErr js i j = 0 := by
  obtain ⟨⟨a1, a2⟩, ⟨b1, b2⟩, c, ⟨d1, d2, d3⟩, e⟩ := h
  unfold jointErr
  rw [if_neg (by rw [h1, h2]; simp), if_neg (by omega), if_neg (by omega), if_neg (by rw [c]; simp), if_neg (by omega), if_neg (by rw [e]; simp)]
theorem jointErr_inv {js : List Joint} {i : Nat} {j : Joint} (h : jointErr js i j = 0) : nameOk j.name = true ∧ find js j.name 0 = i ∧ bodyOk i j := by
  unfold jointErr at h
  split at h
  · contradiction
  rename_i h1
  split at h
  · contradiction
  split at h
  · contradiction
  split at h
  · contradiction
  split at h
  · contradiction
  split at h
  · contradiction
  rename_i h4 h5 h6
  refine ⟨?_, ?_, ⟨by omega, by omega⟩, ⟨by omega, by omega⟩, by simpa using h4, ⟨by omega, by omega, by omega⟩, ?_⟩
  · cases h7 : nameOk j.name
    · exact absurd (.inl h7) h1
    · rfl
  · exact Decidable.byContradiction fun h7 => h1 (.inr h7)
  · exact (Bool.eq_false_or_eq_true _).resolve_right h6
end Go.Proofs.Ytgnblfojpcjgmaa

/- The reference's checks: joints, robots. -/
namespace Go.Proofs.Ytgnblfojpcjgmaa
open Eng
set_option maxRecDepth 10000
attribute [local irreducible] FnOk loopW idxF retX arrF

theorem ref_isLink (r : Robot) (k : Int) : FnOk Try.prog F.ref6_isLink [Ro r, I k] [] 0 (Bo (linkOk r.joints.length k)) [] 0 := by
  refine fnOk tab mix G.ref6_isLink rfl rfl (by kernel_rfl) rfl rfl ?_
  (conv => whnf)
  repeat' ((conv => whnf); first | refine ask_m (fun h => ?_) (fun h => ?_) | refine ret0 ?_)
  all_goals exact ret_b (by first | (simp_all [linkOk]; done) | (simp_all [linkOk]; omega)) rfl
def betw (x a b : Int) : Bool := decide (a ≤ x) && decide (x ≤ b)
theorem ref_between (x a b : Int) : FnOk Try.prog F.ref6_between [I x, I a, I b] [] 0 (Bo (betw x a b)) [] 0 := by
  refine fnOk tab mix G.ref6_between rfl rfl (by kernel_rfl) rfl rfl ?_
  (conv => whnf)
  repeat' ((conv => whnf); first | refine ask_m (fun h => ?_) (fun h => ?_) | refine ret0 ?_)
  all_goals exact ret_b (by first | (simp_all [betw]; done) | (simp_all [betw]; omega)) rfl
def inX (m x : Int) : Bool := decide (-m ≤ x) && decide (x ≤ m)
theorem ref_Near (v : Vec) (m : Int) (hm : 0 ≤ m) (hm2 : m ≤ 4611686018427387904) : FnOk Try.prog F.ref6_Near [Ve v, I m] [] 0 (Bo (inV v m)) [] 0 := by
  refine fnOk tab mix G.ref6_Near rfl rfl (by kernel_rfl) rfl rfl ?_
  (conv => whnf)
  have wn : IntKind.i64.wrap (0 - m) = -m := by rw [w64] <;> omega
  have e : inV v m = (inX m v.x && inX m v.y && inX m v.z) := rfl
  refine loop_intro (fun k : Nat => ⟨[(1, I m), (2, .one (.vptr 0 0)), (5, I k)], [(0, .vars Y.Vec [.dv (.int .i64 v.x), .dv (.int .i64 v.y), .dv (.int .i64 v.z)])], 1⟩) (fun k => k ≤ 3 ∧ (1 ≤ k → inX m v.x = true) ∧ (2 ≤ k → inX m v.y = true) ∧ (3 ≤ k → inX m v.z = true)) (fun k => 3 - k) [] 0 [] ⟨by decide, by omega, by omega, by omega⟩ ⟨⟨rfl, rfl, rfl, trivial⟩, ⟨rfl, trivial⟩⟩ ?_
  rintro k ⟨hk, k1, k2, k3⟩
  rcases (show k = 0 ∨ k = 1 ∨ k = 2 ∨ k = 3 by omega) with rfl | rfl | rfl | rfl
  · (conv => whnf)
    refine ⟨by decide, ?_⟩
    (conv => whnf)
    rw [wn]
    refine ask_m (fun h => ?_) (fun h => ?_)
    · have h := of_decide_eq_true h
      (conv => whnf)
      refine ret0 ?_
      exact ret_b (by rw [e]; simp [inX]; omega) rfl
    · have h := of_decide_eq_false h
      (conv => whnf)
      refine ⟨by decide, ?_⟩
      (conv => whnf)
      refine ask_m (fun h2 => ?_) (fun h2 => ?_)
      · have h2 := of_decide_eq_true h2
        (conv => whnf)
        refine ret0 ?_
        exact ret_b (by rw [e]; simp [inX]; omega) rfl
      · have h2 := of_decide_eq_false h2
        (conv => whnf)
        exact ⟨1, [], ⟨by decide, fun _ => by simp [inX]; omega, by omega, by omega⟩, by omega, ⟨⟨rfl, rfl, rfl, trivial⟩, ⟨rfl, trivial⟩⟩⟩
  · (conv => whnf)
    refine ⟨by decide, ?_⟩
    (conv => whnf)
    rw [wn]
    refine ask_m (fun h => ?_) (fun h => ?_)
    · have h := of_decide_eq_true h
      (conv => whnf)
      refine ret0 ?_
      exact ret_b (by rw [e]; simp [inX]; omega) rfl
    · have h := of_decide_eq_false h
      (conv => whnf)
      refine ⟨by decide, ?_⟩
      (conv => whnf)
      refine ask_m (fun h2 => ?_) (fun h2 => ?_)
      · have h2 := of_decide_eq_true h2
        (conv => whnf)
        refine ret0 ?_
        exact ret_b (by rw [e]; simp [inX]; omega) rfl
      · have h2 := of_decide_eq_false h2
        (conv => whnf)
        exact ⟨2, [], ⟨by decide, fun _ => k1 (by decide), fun _ => by simp [inX]; omega, by omega⟩, by omega, ⟨⟨rfl, rfl, rfl, trivial⟩, ⟨rfl, trivial⟩⟩⟩
  · (conv => whnf)
    refine ⟨by decide, ?_⟩
    (conv => whnf)
    rw [wn]
    refine ask_m (fun h => ?_) (fun h => ?_)
    · have h := of_decide_eq_true h
      (conv => whnf)
      refine ret0 ?_
      exact ret_b (by rw [e]; simp [inX]; omega) rfl
    · have h := of_decide_eq_false h
      (conv => whnf)
      refine ⟨by decide, ?_⟩
      (conv => whnf)
      refine ask_m (fun h2 => ?_) (fun h2 => ?_)
      · have h2 := of_decide_eq_true h2
        (conv => whnf)
        refine ret0 ?_
        exact ret_b (by rw [e]; simp [inX]; omega) rfl
      · have h2 := of_decide_eq_false h2
        (conv => whnf)
        exact ⟨3, [], ⟨by decide, fun _ => k1 (by decide), fun _ => k2 (by decide), fun _ => by simp [inX]; omega⟩, by omega, ⟨⟨rfl, rfl, rfl, trivial⟩, ⟨rfl, trivial⟩⟩⟩
  · (conv => whnf)
    refine ret0 ?_
    exact ret_b (by rw [e, k1 (by decide), k2 (by decide), k3 (by decide)]; rfl) rfl
def reachR (k : Int) : Int := if k = 0 then 0 else if k = 1 ∨ k = 2 ∨ k = 3 then 524288 else 4194304
theorem reachR_eq {k : Int} (h0 : 0 ≤ k) (h6 : k ≤ 6) : reachR k = reach k := by
  rcases (show k = 0 ∨ k = 1 ∨ k = 2 ∨ k = 3 ∨ k = 4 ∨ k = 5 ∨ k = 6 by omega) with rfl | rfl | rfl | rfl | rfl | rfl | rfl <;> decide
theorem ref_reach (k : Int) : FnOk Try.prog F.ref6_reach [I k] [] 0 (I (reachR k)) [] 0 := by
  refine fnOk tab mix G.ref6_reach rfl rfl (by kernel_rfl) rfl rfl ?_
  (conv => whnf)
  repeat' ((conv => whnf); first | refine ask_m (fun h => ?_) (fun h => ?_) | refine ret0 ?_)
  all_goals exact ret_i (by first | (simp_all [reachR]; done) | (simp_all [reachR]; omega)) rfl
theorem find_le : ∀ {js : List Joint} {k b : Nat} {x : Joint}, js[k]? = some x → (b : Int) ≤ find js x.name b ∧ find js x.name b ≤ ((b + k : Nat) : Int)
  | [], _, _, _, h => by simp at h
  | j :: js, 0, b, x, h => by
    simp at h; subst h
    rw [find, if_pos rfl]; omega
  | j :: js, k + 1, b, x, h => by
    rw [find]; split
    · omega
    · have := find_le (js := js) (k := k) (b := b + 1) (by simpa using h)
      omega
theorem ref_checkJoint (js : List Joint) (i : Nat) (j : Joint) (hj : js[i]? = some j) (hl : js.length ≤ 4611686018427387904) : FnOk Try.prog F.ref6_checkJoint [.one (.dv (dJs js)), I i] [] 0 (I (jointErr js i j)) [] 0 := by
  refine fnOk tab mix G.ref6_checkJoint rfl rfl (by kernel_rfl) rfl rfl ?_
  (conv => whnf)
  have hil : i < js.length := (List.getElem?_eq_some_iff.1 hj).1
  refine idx_and (by omega) (by simpa using hj) ?_
  (conv => whnf)
  refine call_i (ref_Name j.name) ?_
  (conv => whnf)
  refine ask_m (fun hn => ?_) (fun hn => ?_)
  · have hn : nameOk j.name = false := by simpa using hn
    (conv => whnf)
    refine ret0 ?_
    exact ret_i (by rw [jointErr, if_pos (.inl hn)]) rfl
  have hn : nameOk j.name = true := by simpa using hn
  (conv => whnf)
  refine loop_intro (fun k : Nat => ⟨[(0, .one (.dv (dJs js))), (1, I i), (5, .one (.vptr 0 0)), (6, I k)], [(0, .vars Y.Joint [.dv (.str j.name), .dv (.int .i64 j.kind), .dv (.int .i64 j.parent), .dv (.int .i64 j.off.x), .dv (.int .i64 j.off.y), .dv (.int .i64 j.off.z), .dv (.int .i64 j.lo), .dv (.int .i64 j.hi), .dv (.int .i64 j.weight), .dv (.int .i64 j.speed), .dv (.int .i64 j.accel), .dv (.int .i64 j.torque)])], 1⟩)
    (fun k => k ≤ i ∧ ∀ (a : Nat) (x : Joint), a < k → js[a]? = some x → x.name ≠ j.name) (fun k => i - k) [] 0 [] ⟨Nat.zero_le _, fun a x h => by omega⟩ ⟨⟨rfl, rfl, rfl, rfl, trivial⟩, ⟨rfl, trivial⟩⟩ ?_
  rintro k ⟨hk, hne⟩
  (conv => whnf)
  refine ask_m (fun h => ?_) (fun h => ?_)
  · have hlt : k < i := by have := of_decide_eq_true h; omega
    obtain ⟨x, hx⟩ : ∃ x, js[k]? = some x := ⟨_, List.getElem?_eq_getElem (by omega)⟩
    have hkk : IntKind.i64.wrap ((k : Int) + 1) = ((k + 1 : Nat) : Int) := by rw [w64] <;> omega
    (conv => whnf)
    refine idx_and (by omega) (by simpa using hx) ?_
    (conv => whnf)
    refine ask_m (fun he => ?_) (fun he => ?_)
    · have he : x.name = j.name := of_decide_eq_true he
      have hf := find_le (b := 0) hx
      rw [he] at hf
      (conv => whnf)
      refine ret0 ?_
      exact ret_i (by rw [jointErr, if_pos (.inr (by omega))]) rfl
    · have he : ¬ x.name = j.name := of_decide_eq_false he
      (conv => whnf)
      refine ⟨k + 1, [], ⟨hlt, fun a y ha hy => ?_⟩, by omega, ⟨⟨rfl, rfl, rfl, eqI hkk, trivial⟩, ⟨rfl, trivial⟩⟩⟩
      rcases Nat.lt_or_ge a k with h' | h'
      · exact hne a y h' hy
      · obtain rfl : a = k := by omega
        rw [hx] at hy; injection hy with hy; subst hy; exact he
  · have hki : k = i := by have := of_decide_eq_false h; omega
    subst hki
    have hf := find_at (k := 0) hj fun a x ha hx => hne a x ha hx
    have hE : jointErr js k j = if j.kind < 0 ∨ 6 < j.kind then 803
      else if j.parent < -1 ∨ (k : Int) ≤ j.parent then 804
      else if inV j.off 4194304 = false then 805
      else if j.hi < j.lo ∨ j.lo < - reach j.kind ∨ reach j.kind < j.hi then 806
      else if (from1 j.weight 1024 && from1 j.speed 1048576 && from1 j.accel 1048576 && from1 j.torque 1099511627776) = false then 807
      else 0 := by rw [jointErr, if_neg (by rw [hn, hf]; simp)]
    rw [hE]
    have hrr : ¬ (j.kind < 0 ∨ 6 < j.kind) → reachR j.kind = reach j.kind := fun h => reachR_eq (by omega) (by omega)
    have hrc := reach_cases j.kind
    have wr : IntKind.i64.wrap (0 - reach j.kind) = - reach j.kind := by rw [w64] <;> omega
    have fb : ∀ x m, betw x 1 m = from1 x m := fun _ _ => rfl
    clear h hE hne
    (conv => whnf)
    refine ask_m (fun h1 => ?_) (fun h1 => ?_)
    · have h1 := of_decide_eq_true h1
      rw [if_pos (.inl h1)]
      (conv => whnf)
      refine ret0 ?_
      exact ret_i rfl rfl
    have h1 := of_decide_eq_false h1
    (conv => whnf)
    refine ask_m (fun h2 => ?_) (fun h2 => ?_)
    · have h2 := of_decide_eq_true h2
      rw [if_pos (.inr h2)]
      (conv => whnf)
      refine ret0 ?_
      exact ret_i rfl rfl
    have h2 := of_decide_eq_false h2
    have h12 : ¬ (j.kind < 0 ∨ 6 < j.kind) := by omega
    rw [if_neg h12]
    (conv => whnf)
    refine ask_m (fun h3 => ?_) (fun h3 => ?_)
    · have h3 := of_decide_eq_true h3
      rw [if_pos (.inl h3)]
      (conv => whnf)
      refine ret0 ?_
      exact ret_i rfl rfl
    have h3 := of_decide_eq_false h3
    (conv => whnf)
    refine ask_m (fun h4 => ?_) (fun h4 => ?_)
    · have h4 := of_decide_eq_true h4
      rw [if_pos (.inr h4)]
      (conv => whnf)
      refine ret0 ?_
      exact ret_i rfl rfl
    have h4 := of_decide_eq_false h4
    rw [if_neg (by omega)]
    (conv => whnf)
    refine call_i (ref_Near j.off 4194304 (by decide) (by decide)) ?_
    (conv => whnf)
    refine ask_m (fun h5 => ?_) (fun h5 => ?_)
    · have h5 : inV j.off 4194304 = false := by simpa using h5
      rw [if_pos h5]
      (conv => whnf)
      refine ret0 ?_
      exact ret_i rfl rfl
    have h5 : inV j.off 4194304 = true := by simpa using h5
    rw [if_neg (by rw [h5]; simp)]
    (conv => whnf)
    refine call_i (ref_reach j.kind) ?_
    (conv => whnf)
    rw [hrr h12]
    refine ask_m (fun h6 => ?_) (fun h6 => ?_)
    · have h6 := of_decide_eq_true h6
      rw [if_pos (.inl h6)]
      (conv => whnf)
      refine ret0 ?_
      exact ret_i rfl rfl
    have h6 := of_decide_eq_false h6
    (conv => whnf)
    rw [wr]
    refine ask_m (fun h7 => ?_) (fun h7 => ?_)
    · have h7 := of_decide_eq_true h7
      rw [if_pos (.inr (.inl h7))]
      (conv => whnf)
      refine ret0 ?_
      exact ret_i rfl rfl
    have h7 := of_decide_eq_false h7
    (conv => whnf)
    refine ask_m (fun h8 => ?_) (fun h8 => ?_)
    · have h8 := of_decide_eq_true h8
      rw [if_pos (.inr (.inr h8))]
      (conv => whnf)
      refine ret0 ?_
      exact ret_i rfl rfl
    have h8 := of_decide_eq_false h8
    rw [if_neg (by omega)]
    (conv => whnf)
    refine call_i (ref_between j.weight 1 1024) ?_
    (conv => whnf)
    rw [fb]
    refine ask_m (fun h9 => ?_) (fun h9 => ?_)
    · have h9 : from1 j.weight 1024 = false := by simpa using h9
      rw [if_pos (by rw [h9]; simp)]
      (conv => whnf)
      refine ret0 ?_
      exact ret_i rfl rfl
    have h9 : from1 j.weight 1024 = true := by simpa using h9
    (conv => whnf)
    refine call_i (ref_between j.speed 1 1048576) ?_
    (conv => whnf)
    rw [fb]
    refine ask_m (fun h10 => ?_) (fun h10 => ?_)
    · have h10 : from1 j.speed 1048576 = false := by simpa using h10
      rw [if_pos (by rw [h10]; simp)]
      (conv => whnf)
      refine ret0 ?_
      exact ret_i rfl rfl
    have h10 : from1 j.speed 1048576 = true := by simpa using h10
    (conv => whnf)
    refine call_i (ref_between j.accel 1 1048576) ?_
    (conv => whnf)
    rw [fb]
    refine ask_m (fun h11 => ?_) (fun h11 => ?_)
    · have h11 : from1 j.accel 1048576 = false := by simpa using h11
      rw [if_pos (by rw [h11]; simp)]
      (conv => whnf)
      refine ret0 ?_
      exact ret_i rfl rfl
    have h11 : from1 j.accel 1048576 = true := by simpa using h11
    (conv => whnf)
    refine call_i (ref_between j.torque 1 1099511627776) ?_
    (conv => whnf)
    rw [fb]
    refine ask_m (fun h13 => ?_) (fun h13 => ?_)
    · have h13 : from1 j.torque 1099511627776 = false := by simpa using h13
      rw [if_pos (by rw [h13]; simp)]
      (conv => whnf)
      refine ret0 ?_
      exact ret_i rfl rfl
    have h13 : from1 j.torque 1099511627776 = true := by simpa using h13
    rw [h9, h10, h11, h13, if_neg (by simp)]
    (conv => whnf)
    refine ret0 ?_
    exact ret_i rfl rfl
end Go.Proofs.Ytgnblfojpcjgmaa

/- The reference's checks: robots, scenes. -/
namespace Go.Proofs.Ytgnblfojpcjgmaa
open Eng
set_option maxRecDepth 10000
attribute [local irreducible] FnOk loopW idxF retX arrF

theorem ref_CheckRobot (r : Robot) (hj : r.joints.length ≤ 4611686018427387904) (hm : r.masses.length ≤ 4611686018427387904) : FnOk Try.prog F.ref6_CheckRobot [Ro r] [] 0 (I (checkRobot r)) [] 0 := by
  refine fnOk tab mix G.ref6_CheckRobot rfl rfl (by kernel_rfl) rfl rfl ?_
  (conv => whnf)
  refine ask_m (fun h => ?_) (fun h => ?_)
  · have h : r.joints.length = 0 := by have := of_decide_eq_true h; simp only [List.length_map] at this; omega
    (conv => whnf)
    refine ret0 ?_
    exact ret_i (by unfold checkRobot; rw [if_pos (.inl h)]) rfl
  have h1 : ¬ r.joints.length = 0 := by have := of_decide_eq_false h; simp only [List.length_map] at this; omega
  (conv => whnf)
  refine ask_m (fun h => ?_) (fun h => ?_)
  · have h : 10 < r.joints.length := by have := of_decide_eq_true h; simp only [List.length_map] at this; omega
    (conv => whnf)
    refine ret0 ?_
    exact ret_i (by unfold checkRobot; rw [if_pos (.inr h)]) rfl
  have h2 : ¬ 10 < r.joints.length := by have := of_decide_eq_false h; simp only [List.length_map] at this; omega
  have e : checkRobot r = if jointsErr r.joints 0 r.joints ≠ 0 then jointsErr r.joints 0 r.joints
    else if 32 < r.masses.length ∨ r.masses.all (massOk r.joints.length) = false then 808 else 0 := by unfold checkRobot; rw [if_neg (by omega)]
  rw [e]
  (conv => whnf)
  refine loop_intro (fun k : Nat => ⟨[(1, .one (.vptr 0 0)), (3, I k)], [(0, bRo r)], 1⟩) (fun k => k ≤ r.joints.length ∧ jointsErr r.joints 0 r.joints = jointsErr r.joints k (r.joints.drop k)) (fun k => r.joints.length - k) [] 0 [] ⟨Nat.zero_le _, rfl⟩ ⟨⟨rfl, rfl, trivial⟩, ⟨rfl, trivial⟩⟩ ?_
  rintro k ⟨hk, hE⟩
  (conv => whnf)
  refine ask_m (fun h => ?_) (fun h => ?_)
  · have hlt : k < r.joints.length := by simp at h; omega
    obtain ⟨j, hj'⟩ : ∃ j, r.joints[k]? = some j := ⟨_, List.getElem?_eq_getElem hlt⟩
    have hkk : IntKind.i64.wrap ((k : Int) + 1) = ((k + 1 : Nat) : Int) := by rw [w64] <;> omega
    rw [drop_cons hj', jointsErr] at hE
    (conv => whnf)
    refine call_i (ref_checkJoint r.joints k j hj' hj) ?_
    (conv => whnf)
    refine ask_m (fun he => ?_) (fun he => ?_)
    · have he : ¬ jointErr r.joints k j = 0 := by simpa using he
      rw [if_neg he] at hE
      (conv => whnf)
      refine ret0 ?_
      exact ret_i (by rw [hE, if_pos he]) rfl
    · have he : jointErr r.joints k j = 0 := by simpa using he
      rw [if_pos he] at hE
      (conv => whnf)
      exact ⟨k + 1, [], ⟨hlt, hE⟩, by omega, ⟨⟨rfl, eqI hkk, trivial⟩, ⟨rfl, trivial⟩⟩⟩
  · have hk : k = r.joints.length := by simp at h; omega
    subst hk
    rw [List.drop_length, jointsErr] at hE
    rw [hE, if_neg (by simp)]
    (conv => whnf)
    refine ask_m (fun h3 => ?_) (fun h3 => ?_)
    · have h3 : 32 < r.masses.length := by have := of_decide_eq_true h3; simp only [List.length_map] at this; omega
      rw [if_pos (.inl h3)]
      (conv => whnf)
      refine ret0 ?_
      exact ret_i rfl rfl
    have h3 : ¬ 32 < r.masses.length := by have := of_decide_eq_false h3; simp only [List.length_map] at this; omega
    (conv => whnf)
    refine loop_intro (fun k : Nat => ⟨[(1, .one (.vptr 0 0)), (5, I k)], [(0, bRo r)], 1⟩) (fun k => k ≤ r.masses.length ∧ (r.masses.take k).all (massOk r.joints.length) = true) (fun k => r.masses.length - k) [] 0 [] ⟨Nat.zero_le _, rfl⟩ ⟨⟨rfl, rfl, trivial⟩, ⟨rfl, trivial⟩⟩ ?_
    rintro k ⟨hk, hall⟩
    (conv => whnf)
    refine ask_m (fun h4 => ?_) (fun h4 => ?_)
    · have hlt : k < r.masses.length := by simp at h4; omega
      obtain ⟨m, hm'⟩ : ∃ j, r.masses[k]? = some j := ⟨_, List.getElem?_eq_getElem hlt⟩
      have hkk : IntKind.i64.wrap ((k : Int) + 1) = ((k + 1 : Nat) : Int) := by rw [w64] <;> omega
      have bad : massOk r.joints.length m = false → (if 32 < r.masses.length ∨ r.masses.all (massOk r.joints.length) = false then (808 : Int) else 0) = 808 := fun h => by rw [if_pos (.inr (all_not hm' h))]
      have hM : massOk r.joints.length m = (decide (0 ≤ m.link) && decide (m.link < r.joints.length) && betw m.mass 1 65536 && inV m.point 4194304) := rfl
      (conv => whnf)
      refine idx_and (by omega) (by simpa using hm') ?_
      (conv => whnf)
      refine ask_m (fun a1 => ?_) (fun a1 => ?_)
      · have a1 := of_decide_eq_true a1
        rw [bad (by rw [hM, decide_eq_false (by omega)]; simp)]
        (conv => whnf)
        refine ret0 ?_
        exact ret_i rfl rfl
      have a1 := of_decide_eq_false a1
      (conv => whnf)
      rw [List.length_map]
      refine ask_m (fun a2 => ?_) (fun a2 => ?_)
      · have a2 := of_decide_eq_true a2
        rw [bad (by rw [hM, decide_eq_false (p := m.link < _) (by omega)]; simp)]
        (conv => whnf)
        refine ret0 ?_
        exact ret_i rfl rfl
      have a2 := of_decide_eq_false a2
      (conv => whnf)
      refine call_i (ref_between m.mass 1 65536) ?_
      (conv => whnf)
      refine ask_m (fun a3 => ?_) (fun a3 => ?_)
      · have a3 : betw m.mass 1 65536 = false := by simpa using a3
        rw [bad (by rw [hM, a3]; simp)]
        (conv => whnf)
        refine ret0 ?_
        exact ret_i rfl rfl
      have a3 : betw m.mass 1 65536 = true := by simpa using a3
      (conv => whnf)
      refine call_i (ref_Near m.point 4194304 (by decide) (by decide)) ?_
      (conv => whnf)
      refine ask_m (fun a4 => ?_) (fun a4 => ?_)
      · have a4 : inV m.point 4194304 = false := by simpa using a4
        rw [bad (by rw [hM, a4]; simp)]
        (conv => whnf)
        refine ret0 ?_
        exact ret_i rfl rfl
      have a4 : inV m.point 4194304 = true := by simpa using a4
      (conv => whnf)
      exact ⟨k + 1, [], ⟨hlt, all_take hall hm' (by rw [hM, a3, a4, decide_eq_true (by omega), decide_eq_true (p := m.link < _) (by omega)]; rfl)⟩, by omega, ⟨⟨rfl, eqI hkk, trivial⟩, ⟨rfl, trivial⟩⟩⟩
    · have hk : k = r.masses.length := by simp at h4; omega
      subst hk
      rw [List.take_length] at hall
      rw [hall, if_neg (by simp; omega)]
      (conv => whnf)
      refine ret0 ?_
      exact ret_i rfl rfl
theorem ref_CheckScene (s : Scene) (hs : small s) : FnOk Try.prog F.ref6_CheckScene [Sc s] [] 0 (I (checkScene s)) [] 0 := by
  refine fnOk tab mix G.ref6_CheckScene rfl rfl (by kernel_rfl) rfl rfl ?_
  (conv => whnf)
  obtain ⟨s1, s2, s3, s4, s5⟩ := hs
  refine call_i (ref_CheckRobot s.robot s1 s2) ?_
  (conv => whnf)
  refine ask_m (fun h => ?_) (fun h => ?_)
  · have h : ¬ checkRobot s.robot = 0 := by simpa using h
    (conv => whnf)
    refine ret0 ?_
    exact ret_i (by unfold checkScene; rw [if_pos h]) rfl
  have h0 : checkRobot s.robot = 0 := by simpa using h
  have e : checkScene s = if 24 < s.shapes.length then 901
    else if shapesErr s.robot.joints.length s.shapes ≠ 0 then shapesErr s.robot.joints.length s.shapes
    else if 64 < s.skips.length then 903
    else if (s.skips.all (skipOk s.robot.joints.length)) = false then 903
    else 0 := by unfold checkScene; rw [if_neg (by rw [h0]; simp)]; rfl
  rw [e]
  clear e
  (conv => whnf)
  refine ask_m (fun h1 => ?_) (fun h1 => ?_)
  · have h1 : 24 < s.shapes.length := by have := of_decide_eq_true h1; simp only [List.length_map] at this; omega
    rw [if_pos h1]
    (conv => whnf)
    refine ret0 ?_
    exact ret_i rfl rfl
  have h1 : ¬ 24 < s.shapes.length := by have := of_decide_eq_false h1; simp only [List.length_map] at this; omega
  rw [if_neg h1]
  (conv => whnf)
  refine loop_intro (fun k : Nat => ⟨[(1, .one (.vptr 0 0)), (4, I k)], [(0, bSc s)], 1⟩) (fun k => k ≤ s.shapes.length ∧ shapesErr s.robot.joints.length s.shapes = shapesErr s.robot.joints.length (s.shapes.drop k)) (fun k => s.shapes.length - k) [] 0 [] ⟨Nat.zero_le _, rfl⟩ ⟨⟨rfl, rfl, trivial⟩, ⟨rfl, trivial⟩⟩ ?_
  rintro k ⟨hk, hE⟩
  (conv => whnf)
  refine ask_m (fun h2 => ?_) (fun h2 => ?_)
  · have hlt : k < s.shapes.length := by simp at h2; omega
    obtain ⟨x, hx⟩ : ∃ j, s.shapes[k]? = some j := ⟨_, List.getElem?_eq_getElem hlt⟩
    have hkk : IntKind.i64.wrap ((k : Int) + 1) = ((k + 1 : Nat) : Int) := by rw [w64] <;> omega
    have hxp := s5 x (List.mem_of_getElem? hx)
    rw [drop_cons hx, shapesErr] at hE
    have e1 : (linkOk s.robot.joints.length x.link = false ∨ x.radius < 1 ∨ 1048576 < x.radius ∨ x.points.length < 1 ∨ 8 < x.points.length) → shapesErr s.robot.joints.length s.shapes = 902 := fun h => by
      have : shapeErr s.robot.joints.length x = 902 := by rw [shapeErr, if_pos h]
      rw [hE, this, if_neg (by decide)]
    have e2 : ¬ (linkOk s.robot.joints.length x.link = false ∨ x.radius < 1 ∨ 1048576 < x.radius ∨ x.points.length < 1 ∨ 8 < x.points.length) → x.points.all (inV · 4194304) = false → shapesErr s.robot.joints.length s.shapes = 805 := fun h h' => by
      have : shapeErr s.robot.joints.length x = 805 := by rw [shapeErr, if_neg h, if_pos h']
      rw [hE, this, if_neg (by decide)]
    have e3 : ¬ (linkOk s.robot.joints.length x.link = false ∨ x.radius < 1 ∨ 1048576 < x.radius ∨ x.points.length < 1 ∨ 8 < x.points.length) → x.points.all (inV · 4194304) = true → shapesErr s.robot.joints.length s.shapes = shapesErr s.robot.joints.length (s.shapes.drop (k + 1)) := fun h h' => by
      have : shapeErr s.robot.joints.length x = 0 := by rw [shapeErr, if_neg h, if_neg (by rw [h']; simp)]
      rw [hE, this, if_pos rfl]
    (conv => whnf)
    refine idx_and (by omega) (by simpa using hx) ?_
    (conv => whnf)
    refine call_i (ref_isLink s.robot x.link) ?_
    (conv => whnf)
    refine ask_m (fun a1 => ?_) (fun a1 => ?_)
    · have a1 : linkOk s.robot.joints.length x.link = false := by simpa using a1
      rw [e1 (.inl a1), if_pos (by decide)]
      (conv => whnf)
      refine ret0 ?_
      exact ret_i rfl rfl
    have a1 : linkOk s.robot.joints.length x.link = true := by simpa using a1
    (conv => whnf)
    refine call_i (ref_between x.radius 1 1048576) ?_
    (conv => whnf)
    refine ask_m (fun a2 => ?_) (fun a2 => ?_)
    · have a2 : betw x.radius 1 1048576 = false := by simpa using a2
      rw [e1 (by simp [betw] at a2; omega), if_pos (by decide)]
      (conv => whnf)
      refine ret0 ?_
      exact ret_i rfl rfl
    have a2 : betw x.radius 1 1048576 = true := by simpa using a2
    simp [betw] at a2
    (conv => whnf)
    refine ask_m (fun a3 => ?_) (fun a3 => ?_)
    · have a3 : x.points.length < 1 := by have := of_decide_eq_true a3; simp only [List.length_map] at this; omega
      rw [e1 (by omega), if_pos (by decide)]
      (conv => whnf)
      refine ret0 ?_
      exact ret_i rfl rfl
    have a3 : ¬ x.points.length < 1 := by have := of_decide_eq_false a3; simp only [List.length_map] at this; omega
    (conv => whnf)
    refine ask_m (fun a4 => ?_) (fun a4 => ?_)
    · have a4 : 8 < x.points.length := by have := of_decide_eq_true a4; simp only [List.length_map] at this; omega
      rw [e1 (by omega), if_pos (by decide)]
      (conv => whnf)
      refine ret0 ?_
      exact ret_i rfl rfl
    have a4 : ¬ 8 < x.points.length := by have := of_decide_eq_false a4; simp only [List.length_map] at this; omega
    have hno : ¬ (linkOk s.robot.joints.length x.link = false ∨ x.radius < 1 ∨ 1048576 < x.radius ∨ x.points.length < 1 ∨ 8 < x.points.length) := by rw [a1]; rintro (h | h | h | h | h) <;> first | contradiction | omega
    (conv => whnf)
    refine loop_intro (fun c : Nat => ⟨[(1, .one (.vptr 0 0)), (4, I k), (5, .one (.vptr 1 0)), (6, I c)], [(0, bSc s), (1, .vars Y.Shape [.dv (.int .i64 x.link), .dv (.int .i64 x.radius), .dv (dVs x.points)])], 2⟩) (fun c => c ≤ x.points.length ∧ (x.points.take c).all (inV · 4194304) = true) (fun c => x.points.length - c) [] 0 [] ⟨Nat.zero_le _, rfl⟩ ⟨⟨rfl, rfl, rfl, rfl, trivial⟩, ⟨rfl, rfl, trivial⟩⟩ ?_
    rintro c ⟨hc, hall⟩
    (conv => whnf)
    refine ask_m (fun a5 => ?_) (fun a5 => ?_)
    · have hcl : c < x.points.length := by simp at a5; omega
      obtain ⟨p, hp⟩ : ∃ j, x.points[c]? = some j := ⟨_, List.getElem?_eq_getElem hcl⟩
      have hcc : IntKind.i64.wrap ((c : Int) + 1) = ((c + 1 : Nat) : Int) := by rw [w64] <;> omega
      (conv => whnf)
      refine idx_and (by omega) (by simpa using hp) ?_
      (conv => whnf)
      refine call_i (ref_Near p 4194304 (by decide) (by decide)) ?_
      (conv => whnf)
      refine ask_m (fun a6 => ?_) (fun a6 => ?_)
      · have a6 : inV p 4194304 = false := by simpa using a6
        rw [e2 hno (all_not hp a6), if_pos (by decide)]
        (conv => whnf)
        refine ret0 ?_
        exact ret_i rfl rfl
      · have a6 : inV p 4194304 = true := by simpa using a6
        (conv => whnf)
        exact ⟨c + 1, [], ⟨hcl, all_take hall hp a6⟩, by omega, ⟨⟨rfl, rfl, rfl, eqI hcc, trivial⟩, ⟨rfl, rfl, trivial⟩⟩⟩
    · have hc : c = x.points.length := by simp at a5; omega
      subst hc
      rw [List.take_length] at hall
      (conv => whnf)
      exact ⟨k + 1, [], ⟨hlt, e3 hno hall⟩, by omega, ⟨⟨rfl, eqI hkk, trivial⟩, ⟨rfl, trivial⟩⟩⟩
  · have hk : k = s.shapes.length := by simp at h2; omega
    subst hk
    rw [List.drop_length, shapesErr] at hE
    rw [hE, if_neg (by simp)]
    (conv => whnf)
    refine ask_m (fun h3 => ?_) (fun h3 => ?_)
    · have h3 : 64 < s.skips.length := by have := of_decide_eq_true h3; simp only [List.length_map] at this; omega
      rw [if_pos h3]
      (conv => whnf)
      refine ret0 ?_
      exact ret_i rfl rfl
    have h3 : ¬ 64 < s.skips.length := by have := of_decide_eq_false h3; simp only [List.length_map] at this; omega
    rw [if_neg h3]
    (conv => whnf)
    refine loop_intro (fun k : Nat => ⟨[(1, .one (.vptr 0 0)), (7, I k)], [(0, bSc s)], 1⟩) (fun k => k ≤ s.skips.length ∧ (s.skips.take k).all (skipOk s.robot.joints.length) = true) (fun k => s.skips.length - k) [] 0 [] ⟨Nat.zero_le _, rfl⟩ ⟨⟨rfl, rfl, trivial⟩, ⟨rfl, trivial⟩⟩ ?_
    rintro k ⟨hk, hall⟩
    (conv => whnf)
    refine ask_m (fun h4 => ?_) (fun h4 => ?_)
    · have hlt : k < s.skips.length := by simp at h4; omega
      obtain ⟨m, hm'⟩ : ∃ j, s.skips[k]? = some j := ⟨_, List.getElem?_eq_getElem hlt⟩
      have hkk : IntKind.i64.wrap ((k : Int) + 1) = ((k + 1 : Nat) : Int) := by rw [w64] <;> omega
      (conv => whnf)
      refine idx_and (by omega) (by simpa using hm') ?_
      (conv => whnf)
      refine call_i (ref_isLink s.robot m.a) ?_
      (conv => whnf)
      refine ask_m (fun a1 => ?_) (fun a1 => ?_)
      · have a1 : linkOk s.robot.joints.length m.a = false := by simpa using a1
        rw [if_pos (all_not hm' (by simp [skipOk, a1]))]
        (conv => whnf)
        refine ret0 ?_
        exact ret_i rfl rfl
      have a1 : linkOk s.robot.joints.length m.a = true := by simpa using a1
      (conv => whnf)
      refine idx_and (by omega) (by simpa using hm') ?_
      (conv => whnf)
      refine call_i (ref_isLink s.robot m.b) ?_
      (conv => whnf)
      refine ask_m (fun a2 => ?_) (fun a2 => ?_)
      · have a2 : linkOk s.robot.joints.length m.b = false := by simpa using a2
        rw [if_pos (all_not hm' (by simp [skipOk, a2]))]
        (conv => whnf)
        refine ret0 ?_
        exact ret_i rfl rfl
      · have a2 : linkOk s.robot.joints.length m.b = true := by simpa using a2
        (conv => whnf)
        exact ⟨k + 1, [], ⟨hlt, all_take hall hm' (by simp [skipOk, a1, a2])⟩, by omega, ⟨⟨rfl, eqI hkk, trivial⟩, ⟨rfl, trivial⟩⟩⟩
    · have hk : k = s.skips.length := by simp at h4; omega
      subst hk
      rw [List.take_length] at hall
      rw [hall, if_neg (by simp)]
      (conv => whnf)
      refine ret0 ?_
      exact ret_i rfl rfl
end Go.Proofs.Ytgnblfojpcjgmaa

/- What valid robots and scenes are; rows. No program in sight. -/
namespace Go.Proofs.Ytgnblfojpcjgmaa
open Eng
set_option maxRecDepth 10000

theorem jat {js : List Joint} : ∀ {l : List Joint} {i k : Nat} {j : Joint}, jointsErr js i l = 0 → l[k]? = some j → jointErr js (i + k) j = 0
  | [], _, _, _, _, h => by simp at h
  | x :: l, i, k, j, h, hj => by
    rw [jointsErr] at h
    split at h
    · rename_i h0
      cases k with
      | zero => simp at hj; subst hj; exact h0
      | succ k =>
        have := jat (k := k) h (by simpa using hj)
        rw [← this]; congr 1; omega
    · contradiction
theorem robot_facts {r : Robot} (h : checkRobot r = 0) : r.joints.length ≤ 10 ∧ (∀ (k : Nat) (j : Joint), r.joints[k]? = some j → nameOk j.name = true ∧ bodyOk k j) ∧ r.masses.length ≤ 32 ∧ ∀ m ∈ r.masses, massOk r.joints.length m = true := by
  unfold checkRobot at h
  split at h
  · contradiction
  split at h
  · contradiction
  split at h
  · contradiction
  rename_i h1 h2 h3
  simp only [ne_eq, Decidable.not_not] at h2
  have h4 : r.masses.length ≤ 32 ∧ r.masses.all (massOk r.joints.length) = true := ⟨by omega, by
    cases hm : r.masses.all (massOk r.joints.length) with
    | true => rfl
    | false => exact absurd (.inr hm) h3⟩
  refine ⟨by omega, fun k j hj => ?_, h4.1, fun m hm => List.all_eq_true.1 h4.2 m hm⟩
  have := jat h2 hj
  rw [Nat.zero_add] at this
  obtain ⟨a, _, b⟩ := jointErr_inv this
  exact ⟨a, b⟩
theorem flat_take {α β : Type} (f : α → List β) {l : List α} {k : Nat} {x : α} (h : l[k]? = some x) : (l.take (k + 1)).flatMap f = (l.take k).flatMap f ++ f x := by
  rw [List.take_add_one, h, List.flatMap_append]; simp
theorem map_take1 {α β : Type} (f : α → β) {l : List α} {k : Nat} {x : α} (h : l[k]? = some x) : (l.take (k + 1)).map f = (l.take k).map f ++ [f x] := by
  rw [List.take_add_one, h, List.map_append]; rfl
theorem from1_bd {x m : Int} (h : from1 x m = true) : 1 ≤ x ∧ x ≤ m := by simpa [from1] using h
theorem rows_eq {t sz : Nat} {a b : List (List DV)} (h : a = b) : Box.rows t sz a = Box.rows t sz b := by rw [h]
theorem scene_facts {s : Scene} (h : checkScene s = 0) : checkRobot s.robot = 0 ∧ s.shapes.length ≤ 24 ∧ (∀ x ∈ s.shapes, linkOk s.robot.joints.length x.link = true ∧ 1 ≤ x.points.length ∧ x.points.length ≤ 8 ∧ (1 ≤ x.radius ∧ x.radius ≤ 1048576) ∧ ∀ p ∈ x.points, inV p 4194304 = true) ∧ s.skips.length ≤ 64 ∧ ∀ k ∈ s.skips, linkOk s.robot.joints.length k.a = true ∧ linkOk s.robot.joints.length k.b = true := by
  unfold checkScene at h
  split at h
  · contradiction
  split at h
  · contradiction
  split at h
  · contradiction
  split at h
  · contradiction
  split at h
  · contradiction
  rename_i h1 h2 h3 h4 h5
  simp only [ne_eq, Decidable.not_not] at h1 h3
  refine ⟨h1, by omega, fun x hx => ?_, by omega, fun k hk => ?_⟩
  · have : ∀ (l : List Shape), shapesErr s.robot.joints.length l = 0 → ∀ x ∈ l, shapeErr s.robot.joints.length x = 0 := by
      intro l
      induction l with
      | nil => intro _ x hx; cases hx
      | cons y l ih =>
        intro he x hx
        rw [shapesErr] at he
        split at he
        · rename_i h0
          rcases List.mem_cons.1 hx with rfl | hx
          · exact h0
          · exact ih he x hx
        · contradiction
    have hx := this s.shapes h3 x hx
    unfold shapeErr at hx
    split at hx
    · contradiction
    split at hx
    · contradiction
    rename_i q1 q2
    refine ⟨?_, by omega, by omega, by omega, fun p hp => ?_⟩
    · cases hl : linkOk s.robot.joints.length x.link with
      | true => rfl
      | false => exact absurd (.inl hl) q1
    · cases hq : x.points.all (inV · 4194304) with
      | true => exact List.all_eq_true.1 hq p hp
      | false => exact absurd hq q2
  · cases hq : s.skips.all fun k => linkOk s.robot.joints.length k.a && linkOk s.robot.joints.length k.b with
    | true => simpa using List.all_eq_true.1 hq k hk
    | false => exact absurd hq h5
theorem link_bd {n : Nat} {k : Int} (h : linkOk n k = true) : -1 ≤ k ∧ k < n := by simpa [linkOk] using h
end Go.Proofs.Ytgnblfojpcjgmaa

/- The reference's WriteRobot and WriteScene. -/
namespace Go.Proofs.Ytgnblfojpcjgmaa
open Eng
set_option maxRecDepth 10000
attribute [local irreducible] FnOk loopW idxF retX arrF

def jB (js : List Joint) (j : Joint) : List (ByteArray × List ByteArray) := [(wJoint, [j.name, kindN j.kind, linkN js j.parent, fmtT j.off.x, fmtT j.off.y, fmtT j.off.z, fmtT j.lo, fmtT j.hi, decT j.weight.toNat 1]), (wLimit, [j.name, decT j.speed.toNat 1, decT j.accel.toNat 1, decT j.torque.toNat 1])]
def mB (js : List Joint) (m : Mass) : ByteArray × List ByteArray := (wMass, [linkN js m.link, fmtT m.mass, fmtT m.point.x, fmtT m.point.y, fmtT m.point.z])
def ptB (p : Vec) : List ByteArray := [fmtT p.x, fmtT p.y, fmtT p.z]
def shB (js : List Joint) (x : Shape) : ByteArray × List ByteArray := (wShape, linkN js x.link :: fmtT x.radius :: x.points.flatMap ptB)
def skB (js : List Joint) (k : Skip) : ByteArray × List ByteArray := (wSkip, [linkN js k.a, linkN js k.b])
def robB (r : Robot) : List (ByteArray × List ByteArray) := r.joints.flatMap (jB r.joints) ++ r.masses.map (mB r.joints)
def scB (s : Scene) : List (ByteArray × List ByteArray) := (robB s.robot ++ s.shapes.map (shB s.robot.joints)) ++ s.skips.map (skB s.robot.joints)
def writeRobot (r : Robot) : List Stmt := if checkRobot r = 0 then numb 0 (robB r) else []
def writeScene (s : Scene) : List Stmt := if checkScene s = 0 then numb 0 (scB s) else []
theorem jB_len (js l : List Joint) : (l.flatMap (jB js)).length = 2 * l.length := by
  induction l with
  | nil => rfl
  | cons j l ih => rw [List.flatMap_cons, List.length_append, ih, List.length_cons]; show 2 + _ = _; omega
theorem ref_DecimalI (n : Int) (h0 : 0 ≤ n) (h1 : n ≤ 9223372036854775807) : FnOk Try.prog F.ref6_Decimal [I n, I 1] [] 0 (Tx (decT n.toNat 1)) [] 0 := by
  obtain ⟨k, rfl⟩ : ∃ k : Nat, n = k := ⟨n.toNat, by omega⟩
  exact ref_DecimalT k 1 (by omega) (by omega)
theorem ref_WriteRobot (r : Robot) (hj : r.joints.length ≤ 4611686018427387904) (hm : r.masses.length ≤ 4611686018427387904) : FnOk Try.prog F.ref6_WriteRobot [Ro r] [] 0 (.one (.row 0)) [(0, .rows Y.Statement 3 ((writeRobot r).map encSt))] 1 := by
  refine fnOk tab mix G.ref6_WriteRobot rfl rfl (by kernel_rfl) rfl rfl ?_
  (conv => whnf)
  refine call_i (ref_CheckRobot r hj hm) ?_
  (conv => whnf)
  refine ask_m (fun h => ?_) (fun h => ?_)
  · have h : ¬ checkRobot r = 0 := by simpa using h
    rw [writeRobot, if_neg h]
    (conv => whnf)
    refine retO [.own 2 Y.Statement 3] ?_
    (conv => whnf)
    exact ⟨[(0, 1)], ⟨rfl, trivial⟩, ⟨rfl, trivial⟩⟩
  have h : checkRobot r = 0 := by simpa using h
  obtain ⟨g1, g2, g3, g4⟩ := robot_facts h
  rw [writeRobot, if_pos h]
  (conv => whnf)
  refine loop_intro (fun k : Nat => ⟨[(1, .one (.vptr 0 0)), (3, .one (.row 1)), (4, I k)], [(0, bRo r), (1, .rows Y.Statement 3 ((numb 0 ((r.joints.take k).flatMap (jB r.joints))).map encSt))], 2⟩) (fun k => k ≤ r.joints.length) (fun k => r.joints.length - k) [.own 3 Y.Statement 3] 0 [] (Nat.zero_le _) ⟨⟨rfl, rfl, rfl, trivial⟩, ⟨rfl, rfl, trivial⟩⟩ ?_
  rintro k hk
  have hkk : IntKind.i64.wrap ((k : Int) + 1) = ((k + 1 : Nat) : Int) := by rw [w64] <;> omega
  (conv => whnf)
  refine ask_m (fun hlt => ?_) (fun hlt => ?_)
  · have hlt : k < r.joints.length := by simpa using hlt
    obtain ⟨j, hjk⟩ : ∃ j, r.joints[k]? = some j := ⟨_, List.getElem?_eq_getElem hlt⟩
    obtain ⟨n1, ⟨n2, n3⟩, ⟨n4, n5⟩, n6, n7, n8⟩ := g2 k j hjk
    simp only [Bool.and_eq_true] at n8
    obtain ⟨⟨⟨c1, c2⟩, c3⟩, c4⟩ := n8
    have c1 := from1_bd c1
    have c2 := from1_bd c2
    have c3 := from1_bd c3
    have c4 := from1_bd c4
    have e1 : IntKind.i64.wrap (IntKind.i64.wrap (2 * (k : Int)) + 1) = 2 * (k : Int) + 1 := by rw [w64 (x := 2 * (k : Int)) (by omega) (by omega), w64 (by omega) (by omega)]
    have e2 : IntKind.i64.wrap (IntKind.i64.wrap (2 * (k : Int)) + 2) = 2 * (k : Int) + 2 := by rw [w64 (x := 2 * (k : Int)) (by omega) (by omega), w64 (by omega) (by omega)]
    have hbl : ((r.joints.take k).flatMap (jB r.joints)).length = 2 * k := by rw [jB_len, List.length_take]; omega
    have hnl : ((numb 0 ((r.joints.take k).flatMap (jB r.joints))).map encSt).length = 2 * k := by rw [List.length_map, numb_len, hbl]
    have hfin : (numb 0 ((r.joints.take (k + 1)).flatMap (jB r.joints))).map encSt = ((numb 0 ((r.joints.take k).flatMap (jB r.joints))).map encSt ++ [[.int .i64 (2 * (k : Int) + 1), .str wJoint, .lst 1 ([[.str j.name], [.str (kindN j.kind)], [.str (linkN r.joints j.parent)]] ++ (([j.off.x, j.off.y, j.off.z, j.lo, j.hi].map fmtT).map encA) ++ [[.str (decT j.weight.toNat 1)]])]]) ++ [[.int .i64 (2 * (k : Int) + 2), .str wLimit, .lst 1 [[.str j.name], [.str (decT j.speed.toNat 1)], [.str (decT j.accel.toNat 1)], [.str (decT j.torque.toNat 1)]]]] := by
      rw [flat_take (jB r.joints) hjk, numb_app, List.map_append, Nat.zero_add, hbl, List.append_assoc]
      congr 1
    generalize (numb 0 ((r.joints.take k).flatMap (jB r.joints))).map encSt = rows at hnl hfin ⊢
    (conv => whnf)
    refine idx_and (by omega) (by simpa using hjk) ?_
    (conv => whnf)
    refine call_i (ref_kindName j.kind n2 n3) ?_
    (conv => whnf)
    refine call_i (ref_linkName r j.parent n4 (by omega)) ?_
    (conv => whnf)
    refine ⟨⟨by decide, by decide⟩, ?_⟩
    (conv => whnf)
    refine ⟨⟨by decide, by decide⟩, ?_⟩
    (conv => whnf)
    refine ⟨⟨by decide, by decide⟩, ?_⟩
    (conv => whnf)
    refine call_i (ref_written [j.off.x, j.off.y, j.off.z, j.lo, j.hi] (by simp)) ?_
    (conv => whnf)
    refine ⟨⟨by simp, by simp⟩, ?_⟩
    (conv => whnf)
    refine call_i (ref_DecimalI j.weight (by omega) (by omega)) ?_
    (conv => whnf)
    refine ⟨⟨by simp, by simp⟩, ?_⟩
    (conv => whnf)
    refine ⟨⟨by simp; omega, by simp; omega⟩, ?_⟩
    (conv => whnf)
    refine call_i (ref_DecimalI j.speed (by omega) (by omega)) ?_
    (conv => whnf)
    refine call_i (ref_DecimalI j.accel (by omega) (by omega)) ?_
    (conv => whnf)
    refine call_i (ref_DecimalI j.torque (by omega) (by omega)) ?_
    (conv => whnf)
    refine ⟨⟨by simp; omega, by simp; omega⟩, ?_⟩
    (conv => whnf)
    exact ⟨k + 1, [(1, 12)], hlt, by omega, ⟨⟨rfl, rfl, eqI hkk, trivial⟩, ⟨rfl, rows_eq (by rw [hfin, e1, e2]; rfl), trivial⟩⟩⟩
  · have hk : k = r.joints.length := by simp at hlt; omega
    subst hk
    rw [List.take_length]
    have hbl : (r.joints.flatMap (jB r.joints)).length = 2 * r.joints.length := jB_len _ _
    rw [robB]
    generalize r.joints.flatMap (jB r.joints) = B at *
    (conv => whnf)
    refine loop_intro (fun k : Nat => ⟨[(1, .one (.vptr 0 0)), (3, .one (.row 1)), (7, I k)], [(0, bRo r), (1, .rows Y.Statement 3 ((numb 0 (B ++ (r.masses.take k).map (mB r.joints))).map encSt))], 2⟩) (fun k => k ≤ r.masses.length) (fun k => r.masses.length - k) [] 0 [] (Nat.zero_le _) ⟨⟨rfl, rfl, rfl, trivial⟩, ⟨rfl, rows_eq (by simp), trivial⟩⟩ ?_
    rintro k hk
    have hkk : IntKind.i64.wrap ((k : Int) + 1) = ((k + 1 : Nat) : Int) := by rw [w64] <;> omega
    (conv => whnf)
    refine ask_m (fun hlt => ?_) (fun hlt => ?_)
    · have hlt : k < r.masses.length := by simpa using hlt
      obtain ⟨m, hmk⟩ : ∃ m, r.masses[k]? = some m := ⟨_, List.getElem?_eq_getElem hlt⟩
      have hok := g4 m (List.mem_of_getElem? hmk)
      simp only [massOk, Bool.and_eq_true, decide_eq_true_eq] at hok
      have hfin : (numb 0 (B ++ (r.masses.take (k + 1)).map (mB r.joints))).map encSt = (numb 0 (B ++ (r.masses.take k).map (mB r.joints))).map encSt ++ [[.int .i64 ((2 * r.joints.length + k : Nat) + 1), .str wMass, .lst 1 ([[.str (linkN r.joints m.link)]] ++ (([m.mass, m.point.x, m.point.y, m.point.z].map fmtT).map encA))]] := by
        rw [map_take1 (mB r.joints) hmk, ← List.append_assoc, mB, numb_snoc]
        simp [encA, hbl]; omega
      have hnl : ((numb 0 (B ++ (r.masses.take k).map (mB r.joints))).map encSt).length = 2 * r.joints.length + k := by rw [List.length_map, numb_len, List.length_append, hbl, List.length_map, List.length_take]; omega
      generalize (numb 0 (B ++ (r.masses.take k).map (mB r.joints))).map encSt = rows at hnl hfin ⊢
      have e1 : IntKind.i64.wrap ((rows.length : Int) + 1) = ((2 * r.joints.length + k : Nat) : Int) + 1 := by rw [hnl, w64] <;> omega
      (conv => whnf)
      refine idx_and (by omega) (by simpa using hmk) ?_
      (conv => whnf)
      refine call_i (ref_linkName r m.link (by omega) (by omega)) ?_
      (conv => whnf)
      refine ⟨⟨by decide, by decide⟩, ?_⟩
      (conv => whnf)
      refine ⟨⟨by decide, by decide⟩, ?_⟩
      (conv => whnf)
      refine ⟨⟨by decide, by decide⟩, ?_⟩
      (conv => whnf)
      refine call_i (ref_written [m.mass, m.point.x, m.point.y, m.point.z] (by simp)) ?_
      (conv => whnf)
      refine ⟨⟨by simp, by simp⟩, ?_⟩
      (conv => whnf)
      refine ⟨⟨by simp; omega, by simp; omega⟩, ?_⟩
      (conv => whnf)
      exact ⟨k + 1, [(1, 7)], hlt, by omega, ⟨⟨rfl, rfl, eqI hkk, trivial⟩, ⟨rfl, rows_eq (by rw [hfin, ← e1]; rfl), trivial⟩⟩⟩
    · have hk : k = r.masses.length := by simp at hlt; omega
      subst hk
      rw [List.take_length]
      (conv => whnf)
      refine retO [] ?_
      (conv => whnf)
      exact ⟨[(0, 1)], ⟨rfl, trivial⟩, ⟨rfl, trivial⟩⟩
theorem robB_len (r : Robot) : (robB r).length = 2 * r.joints.length + r.masses.length := by rw [robB, List.length_append, jB_len, List.length_map]
theorem ref_WriteScene (s : Scene) (hs : small s) : FnOk Try.prog F.ref6_WriteScene [Sc s] [] 0 (.one (.row 0)) [(0, .rows Y.Statement 3 ((writeScene s).map encSt))] 1 := by
  refine fnOk tab mix G.ref6_WriteScene rfl rfl (by kernel_rfl) rfl rfl ?_
  (conv => whnf)
  refine call_i (ref_CheckScene s hs) ?_
  (conv => whnf)
  refine ask_m (fun h => ?_) (fun h => ?_)
  · have h : ¬ checkScene s = 0 := by simpa using h
    rw [writeScene, if_neg h]
    (conv => whnf)
    refine retO [.own 2 Y.Statement 3] ?_
    (conv => whnf)
    exact ⟨[(0, 1)], ⟨rfl, trivial⟩, ⟨rfl, trivial⟩⟩
  have h : checkScene s = 0 := by simpa using h
  obtain ⟨g0, g1, g2, g3, g4⟩ := scene_facts h
  obtain ⟨f1, _, f3, _⟩ := robot_facts g0
  rw [writeScene, if_pos h]
  (conv => whnf)
  refine call_i (ref_WriteRobot s.robot hs.1 hs.2.1) ?_
  (conv => whnf)
  rw [writeRobot, if_pos g0, scB]
  have hbl := robB_len s.robot
  generalize robB s.robot = B at *
  have hB : (numb 0 B).map encSt = (numb 0 (B ++ (s.shapes.take 0).map (shB s.robot.joints))).map encSt := by simp
  rw [hB]
  refine loop_intro (fun k : Nat => ⟨[(1, .one (.vptr 0 0)), (3, .one (.row 1)), (4, I k)], [(0, bSc s), (1, .rows Y.Statement 3 ((numb 0 (B ++ (s.shapes.take k).map (shB s.robot.joints))).map encSt))], 2⟩) (fun k => k ≤ s.shapes.length) (fun k => s.shapes.length - k) [] 0 [] (Nat.zero_le _) ⟨⟨rfl, rfl, rfl, trivial⟩, ⟨rfl, rfl, trivial⟩⟩ ?_
  rintro k hk
  have hkk : IntKind.i64.wrap ((k : Int) + 1) = ((k + 1 : Nat) : Int) := by rw [w64] <;> omega
  (conv => whnf)
  refine ask_m (fun hlt => ?_) (fun hlt => ?_)
  · have hlt : k < s.shapes.length := by simpa using hlt
    obtain ⟨x, hxk⟩ : ∃ m, s.shapes[k]? = some m := ⟨_, List.getElem?_eq_getElem hlt⟩
    obtain ⟨q1, q2, q3, q4, q5⟩ := g2 x (List.mem_of_getElem? hxk)
    have q1 := link_bd q1
    have hfin : (numb 0 (B ++ (s.shapes.take (k + 1)).map (shB s.robot.joints))).map encSt = (numb 0 (B ++ (s.shapes.take k).map (shB s.robot.joints))).map encSt ++ [[.int .i64 ((B.length + k : Nat) + 1), .str wShape, .lst 1 ((linkN s.robot.joints x.link :: fmtT x.radius :: x.points.flatMap ptB).map encA)]] := by
      rw [map_take1 (shB s.robot.joints) hxk, ← List.append_assoc, shB, numb_snoc]
      simp [encA]; omega
    have hnl : ((numb 0 (B ++ (s.shapes.take k).map (shB s.robot.joints))).map encSt).length = B.length + k := by rw [List.length_map, numb_len, List.length_append, List.length_map, List.length_take]; omega
    generalize (numb 0 (B ++ (s.shapes.take k).map (shB s.robot.joints))).map encSt = rows at hnl hfin ⊢
    have e1 : IntKind.i64.wrap ((rows.length : Int) + 1) = ((B.length + k : Nat) : Int) + 1 := by rw [hnl, w64] <;> omega
    (conv => whnf)
    refine idx_and (by omega) (by simpa using hxk) ?_
    (conv => whnf)
    refine call_i (ref_linkName s.robot x.link (by omega) (by omega)) ?_
    (conv => whnf)
    refine call_i (ref_written [x.radius] (by simp)) ?_
    (conv => whnf)
    refine ⟨⟨by simp, by simp⟩, ?_⟩
    (conv => whnf)
    refine loop_intro (fun i : Nat => ⟨[(1, .one (.vptr 0 0)), (3, .one (.row 1)), (4, I k), (5, .one (.vptr 2 0)), (6, .one (.row 3)), (7, I i)], [(0, bSc s), (1, .rows Y.Statement 3 rows), (2, .vars Y.Shape [.dv (.int .i64 x.link), .dv (.int .i64 x.radius), .dv (dVs x.points)]), (3, .rows Y.string 1 ((linkN s.robot.joints x.link :: fmtT x.radius :: (x.points.take i).flatMap ptB).map encA))], 4⟩) (fun i => i ≤ x.points.length) (fun i => x.points.length - i) [] 0 [(3, 5)] (Nat.zero_le _) ⟨⟨rfl, rfl, rfl, rfl, rfl, rfl, trivial⟩, ⟨rfl, rfl, rfl, rfl, trivial⟩⟩ ?_
    rintro i hi
    have hii : IntKind.i64.wrap ((i : Int) + 1) = ((i + 1 : Nat) : Int) := by rw [w64] <;> omega
    have hal : ∀ n, ((x.points.take n).flatMap ptB).length ≤ 3 * n := by
      intro n
      have : ∀ l : List Vec, (l.flatMap ptB).length = 3 * l.length := by
        intro l
        induction l with
        | nil => rfl
        | cons p l ih => rw [List.flatMap_cons, List.length_append, ih, List.length_cons]; show 3 + _ = _; omega
      rw [this, List.length_take]; omega
    have hali := hal i
    (conv => whnf)
    refine ask_m (fun hilt => ?_) (fun hilt => ?_)
    · have hilt : i < x.points.length := by simpa using hilt
      obtain ⟨p, hpi⟩ : ∃ p, x.points[i]? = some p := ⟨_, List.getElem?_eq_getElem hilt⟩
      (conv => whnf)
      refine idx_and (by omega) (by simpa using hpi) ?_
      (conv => whnf)
      refine ⟨⟨by decide, by decide⟩, ?_⟩
      (conv => whnf)
      refine idx_and (by omega) (by simpa using hpi) ?_
      (conv => whnf)
      refine ⟨⟨by decide, by decide⟩, ?_⟩
      (conv => whnf)
      refine idx_and (by omega) (by simpa using hpi) ?_
      (conv => whnf)
      refine ⟨⟨by decide, by decide⟩, ?_⟩
      (conv => whnf)
      refine call_i (ref_written [p.x, p.y, p.z] (by simp)) ?_
      (conv => whnf)
      refine ⟨⟨by simp only [List.length_append, List.length_map, List.length_cons, List.length_nil]; omega, by simp only [List.length_append, List.length_map, List.length_cons, List.length_nil]; omega⟩, ?_⟩
      (conv => whnf)
      exact ⟨i + 1, [(3, 5)], hilt, by omega, ⟨⟨rfl, rfl, rfl, rfl, rfl, eqI hii, trivial⟩, ⟨rfl, rfl, rfl, rows_eq (by rw [flat_take ptB hpi]; simp [ptB]), trivial⟩⟩⟩
    · have hi : i = x.points.length := by simp at hilt; omega
      subst hi
      rw [List.take_length]
      (conv => whnf)
      refine ⟨⟨by simp; omega, by simp; omega⟩, ?_⟩
      (conv => whnf)
      exact ⟨k + 1, [(1, 5)], hlt, by omega, ⟨⟨rfl, rfl, eqI hkk, trivial⟩, ⟨rfl, rows_eq (by rw [hfin, ← e1]; rfl), trivial⟩⟩⟩
  · have hk : k = s.shapes.length := by simp at hlt; omega
    subst hk
    rw [List.take_length]
    have hcl : (B ++ s.shapes.map (shB s.robot.joints)).length = B.length + s.shapes.length := by simp
    generalize B ++ s.shapes.map (shB s.robot.joints) = C at *
    (conv => whnf)
    refine loop_intro (fun k : Nat => ⟨[(1, .one (.vptr 0 0)), (3, .one (.row 1)), (8, I k)], [(0, bSc s), (1, .rows Y.Statement 3 ((numb 0 (C ++ (s.skips.take k).map (skB s.robot.joints))).map encSt))], 2⟩) (fun k => k ≤ s.skips.length) (fun k => s.skips.length - k) [] 0 [] (Nat.zero_le _) ⟨⟨rfl, rfl, rfl, trivial⟩, ⟨rfl, rows_eq (by simp), trivial⟩⟩ ?_
    rintro k hk
    have hkk : IntKind.i64.wrap ((k : Int) + 1) = ((k + 1 : Nat) : Int) := by rw [w64] <;> omega
    (conv => whnf)
    refine ask_m (fun hlt => ?_) (fun hlt => ?_)
    · have hlt : k < s.skips.length := by simpa using hlt
      obtain ⟨y, hyk⟩ : ∃ m, s.skips[k]? = some m := ⟨_, List.getElem?_eq_getElem hlt⟩
      obtain ⟨q1, q2⟩ := g4 y (List.mem_of_getElem? hyk)
      have q1 := link_bd q1
      have q2 := link_bd q2
      have hfin : (numb 0 (C ++ (s.skips.take (k + 1)).map (skB s.robot.joints))).map encSt = (numb 0 (C ++ (s.skips.take k).map (skB s.robot.joints))).map encSt ++ [[.int .i64 ((C.length + k : Nat) + 1), .str wSkip, .lst 1 ([[.str (linkN s.robot.joints y.a)], [.str (linkN s.robot.joints y.b)]])]] := by
        rw [map_take1 (skB s.robot.joints) hyk, ← List.append_assoc, skB, numb_snoc]
        simp [encA]; omega
      have hnl : ((numb 0 (C ++ (s.skips.take k).map (skB s.robot.joints))).map encSt).length = C.length + k := by rw [List.length_map, numb_len, List.length_append, List.length_map, List.length_take]; omega
      generalize (numb 0 (C ++ (s.skips.take k).map (skB s.robot.joints))).map encSt = rows at hnl hfin ⊢
      have e1 : IntKind.i64.wrap ((rows.length : Int) + 1) = ((C.length + k : Nat) : Int) + 1 := by rw [hnl, w64] <;> omega
      (conv => whnf)
      refine idx_and (by omega) (by simpa using hyk) ?_
      (conv => whnf)
      refine call_i (ref_linkName s.robot y.a (by omega) (by omega)) ?_
      (conv => whnf)
      refine idx_and (by omega) (by simpa using hyk) ?_
      (conv => whnf)
      refine call_i (ref_linkName s.robot y.b (by omega) (by omega)) ?_
      (conv => whnf)
      refine ⟨⟨by simp; omega, by simp; omega⟩, ?_⟩
      (conv => whnf)
      exact ⟨k + 1, [(1, 4)], hlt, by omega, ⟨⟨rfl, rfl, eqI hkk, trivial⟩, ⟨rfl, rows_eq (by rw [hfin, ← e1]; rfl), trivial⟩⟩⟩
    · have hk : k = s.skips.length := by simp at hlt; omega
      subst hk
      rw [List.take_length]
      (conv => whnf)
      refine retO [] ?_
      (conv => whnf)
      exact ⟨[(0, 1)], ⟨rfl, trivial⟩, ⟨rfl, trivial⟩⟩
end Go.Proofs.Ytgnblfojpcjgmaa

/- The makers: letters, joints. -/
namespace Go.Proofs.Ytgnblfojpcjgmaa
open Eng
set_option maxRecDepth 10000
attribute [local irreducible] FnOk loopW idxF retX arrF

def letter (k : Nat) : ByteArray := ⟨#[(97 + k).toUInt8]⟩
theorem letter_cut (k : Nat) (hk : k < 10) : (ByteArray.mk #[97, 98, 99, 100, 101, 102, 103, 104, 105, 106]).extract k (k + 1) = letter k := by
  have h : ∀ k, k < 10 → (ByteArray.mk #[97, 98, 99, 100, 101, 102, 103, 104, 105, 106]).extract k (k + 1) = letter k := by decide
  exact h k hk
theorem mk_letter (k : Nat) (hk : k < 10) : FnOk Try.prog F.mk_letter [I k] [] 0 (Tx (letter k)) [] 0 := by
  refine fnOk tab mix G.mk_letter rfl rfl (by kernel_rfl) rfl rfl ?_
  (conv => whnf)
  have hkk : IntKind.i64.wrap ((k : Int) + 1) = ((k + 1 : Nat) : Int) := by rw [w64] <;> omega
  rw [hkk]
  refine ⟨⟨by omega, by omega, by show _ ≤ (10 : Int); omega⟩, ?_⟩
  (conv => whnf)
  refine ret0 ?_
  rw [Int.toNat_natCast, Int.toNat_natCast]
  exact ret_dv (congrArg DV.str (letter_cut k hk)) rfl
def kindOf (n : Int) : Int := [3, 3, 1, 2, 4, 5, 3, 0].getD n.toNat 0
def jParent (l : List Int) (p i : Nat) : Int := if nxt l (p + 3) 4 = 1 then -1 else (i : Int) - 1
def jOff (l : List Int) (p i : Nat) : Vec := if 0 < i then ⟨131072, (nxt l (p + 4) 5 - 2) * 32768, (nxt l (p + 5) 3 - 1) * 32768⟩ else ⟨0, 0, 0⟩
def jAt (p i : Nat) : Nat := if 0 < i then p + 6 else p + 4
def jSpan (l : List Int) (q : Nat) (kd : Int) : Int × Int × Nat :=
  if kd = 0 then (0, 0, q)
  else if kd = 4 ∨ kd = 5 then ((0 - nxt l q 3) * 65536, nxt l (q + 1) 4 * 32768, q + 2)
  else ((0 - nxt l q 5) * 8192, (1 + nxt l (q + 1) 4) * 8192 + nxt l (q + 2) 3, q + 3)
def jKind (l : List Int) (p : Nat) : Int := kindOf (nxt l (p + 2) 8)
def mkJoint (l : List Int) (p i : Nat) : Joint :=
  ⟨letter i, jKind l p, jParent l p i, jOff l p i, (jSpan l (jAt p i) (jKind l p)).1, (jSpan l (jAt p i) (jKind l p)).2.1, 1 + nxt l p 4, 65536, 65536 + nxt l (p + 1) 3, 327680⟩
def mkJointAt (l : List Int) (p i : Nat) : Nat := (jSpan l (jAt p i) (jKind l p)).2.2
theorem kind_at {n : Int} (h0 : 0 ≤ n) (h8 : n < 8) : [CV.dv (.int .i64 3), .dv (.int .i64 3), .dv (.int .i64 1), .dv (.int .i64 2), .dv (.int .i64 4), .dv (.int .i64 5), .dv (.int .i64 3), .dv (.int .i64 0)][n.toNat]? = some (.dv (.int .i64 (kindOf n))) := by
  obtain ⟨k, rfl⟩ : ∃ k : Nat, n = k := ⟨n.toNat, by omega⟩
  rw [kindOf, Int.toNat_natCast]
  match k, h8 with
  | 0, _ | 1, _ | 2, _ | 3, _ | 4, _ | 5, _ | 6, _ | 7, _ => rfl
  | k + 8, h => omega
abbrev Jo (j : Joint) : SV := .agg [.dv (.str j.name), .dv (.int .i64 j.kind), .dv (.int .i64 j.parent), .dv (.int .i64 j.off.x), .dv (.int .i64 j.off.y), .dv (.int .i64 j.off.z), .dv (.int .i64 j.lo), .dv (.int .i64 j.hi), .dv (.int .i64 j.weight), .dv (.int .i64 j.speed), .dv (.int .i64 j.accel), .dv (.int .i64 j.torque)]
theorem w_lo {a : Int} (h0 : 0 ≤ a) (h1 : a < 5) : IntKind.i64.wrap ((IntKind.i64.wrap (IntKind.i64.wrap (0 - a) * 65536)).tdiv 8) = (0 - a) * 8192 := by
  rw [w64 (x := 0 - a) (by omega) (by omega), w64 (x := (0 - a) * 65536) (by omega) (by omega), show (0 - a) * 65536 = ((0 - a) * 8192) * 8 by omega, Int.mul_tdiv_cancel _ (by decide), w64] <;> omega
theorem w_hi {a b : Int} (h0 : 0 ≤ a) (h1 : a < 4) (h2 : 0 ≤ b) (h3 : b < 3) : IntKind.i64.wrap (IntKind.i64.wrap ((IntKind.i64.wrap (IntKind.i64.wrap (1 + a) * 65536)).tdiv 8) + b) = (1 + a) * 8192 + b := by
  rw [w64 (x := 1 + a) (by omega) (by omega), w64 (x := (1 + a) * 65536) (by omega) (by omega), show (1 + a) * 65536 = ((1 + a) * 8192) * 8 by omega, Int.mul_tdiv_cancel _ (by decide), w64 (x := (1 + a) * 8192) (by omega) (by omega), w64] <;> omega
theorem mk_joint (l : List Int) (p i : Nat) (hl : l.length ≤ 4611686018427387904) (hi : i < 10) : FnOk Try.prog F.mk_joint [.one (.vptr 0 0), I i] [(0, SrcJ l p)] 1 (Jo (mkJoint l p i)) [(0, SrcJ l (mkJointAt l p i))] 1 := by
  refine fnOk tab mix G.mk_joint rfl rfl (by kernel_rfl) rfl rfl ?_
  (conv => whnf)
  refine call_i (mk_letter i hi) ?_
  (conv => whnf)
  refine call_i (mk_Next l p 4 (by omega) (by omega) hl) ?_
  (conv => whnf)
  refine call_i (mk_Next l (p + 1) 3 (by omega) (by omega) hl) ?_
  (conv => whnf)
  refine call_i (mk_Next l (p + 2) 8 (by omega) (by omega) hl) ?_
  (conv => whnf)
  have n0 := nxt_bd (l := l) (j := p) (m := 4) (by omega)
  have n1 := nxt_bd (l := l) (j := p + 1) (m := 3) (by omega)
  have n2 := nxt_bd (l := l) (j := p + 2) (m := 8) (by omega)
  refine ⟨⟨n2.1, by simpa using n2.2⟩, ?_⟩
  have hkd := kind_at n2.1 n2.2
  rw [show kindOf (nxt l (p + 2) 8) = jKind l p from rfl] at hkd
  refine arr_at rfl rfl hkd ?_
  clear hkd
  (conv => whnf)
  refine call_i (mk_Next l (p + 3) 4 (by omega) (by omega) hl) ?_
  (conv => whnf)
  have w0 : IntKind.i64.wrap (1 + nxt l p 4) = 1 + nxt l p 4 := by rw [w64] <;> omega
  have w1 : IntKind.i64.wrap (65536 + nxt l (p + 1) 3) = 65536 + nxt l (p + 1) 3 := by rw [w64] <;> omega
  have wi : IntKind.i64.wrap ((i : Int) - 1) = (i : Int) - 1 := by rw [w64] <;> omega
  rw [w0, w1, wi]
  have hJ : mkJoint l p i = ⟨letter i, jKind l p, jParent l p i, jOff l p i, (jSpan l (jAt p i) (jKind l p)).1, (jSpan l (jAt p i) (jKind l p)).2.1, 1 + nxt l p 4, 65536, 65536 + nxt l (p + 1) 3, 327680⟩ := rfl
  rw [hJ, mkJointAt]
  generalize jKind l p = kd
  refine ask_m (fun h => ?_) (fun h => ?_)
  · have hp : jParent l p i = -1 := by unfold jParent; rw [if_pos (by simpa using h)]
    rw [hp]
    (conv => whnf)
    refine ask_m (fun h => ?_) (fun h => ?_)
    · have h : 0 < i := by have := of_decide_eq_true h; omega
      have ho : jOff l p i = ⟨131072, (nxt l (p + 4) 5 - 2) * 32768, (nxt l (p + 5) 3 - 1) * 32768⟩ := by unfold jOff; rw [if_pos h]
      have hq : jAt p i = p + 6 := by unfold jAt; rw [if_pos h]
      rw [ho, hq]
      (conv => whnf)
      refine call_i (mk_Signed l (p + 4) 2 5 (by omega) (by omega) (by omega) hl) ?_
      (conv => whnf)
      refine call_i (mk_Signed l (p + 5) 1 3 (by omega) (by omega) (by omega) hl) ?_
      (conv => whnf)
      have s4 := nxt_bd (l := l) (j := p + 4) (m := 5) (by omega)
      have s5 := nxt_bd (l := l) (j := p + 5) (m := 3) (by omega)
      rw [show IntKind.i64.wrap ((nxt l (p + 4) 5 - 2) * 32768) = (nxt l (p + 4) 5 - 2) * 32768 by rw [w64] <;> omega, show IntKind.i64.wrap ((nxt l (p + 5) 3 - 1) * 32768) = (nxt l (p + 5) 3 - 1) * 32768 by rw [w64] <;> omega]
      refine ask_m (fun h => ?_) (fun h => ?_)
      · have e : jSpan l (p + 6) kd = (0, 0, p + 6) := by unfold jSpan; rw [if_pos (by simpa using h)]
        rw [e]
        (conv => whnf)
        refine ret0 ?_
        exact ⟨[], ⟨rfl, trivial⟩, ⟨rfl, trivial⟩⟩
      have k0 : ¬ kd = 0 := by simpa using h
      (conv => whnf)
      refine ask_m (fun h => ?_) (fun h => ?_)
      · have e : jSpan l (p + 6) kd = ((0 - nxt l (p + 6) 3) * 65536, nxt l (p + 6 + 1) 4 * 32768, p + 6 + 2) := by unfold jSpan; rw [if_neg k0, if_pos (by simp_all)]
        have a0 := nxt_bd (l := l) (j := p + 6) (m := 3) (by omega)
        have a1 := nxt_bd (l := l) (j := p + 6 + 1) (m := 4) (by omega)
        rw [e]
        (conv => whnf)
        refine ask_mt h ?_
        (conv => whnf)
        refine call_i (mk_Next l (p + 6) 3 (by omega) (by omega) hl) ?_
        (conv => whnf)
        refine call_i (mk_Next l (p + 6 + 1) 4 (by omega) (by omega) hl) ?_
        (conv => whnf)
        refine ret0 ?_
        rw [show IntKind.i64.wrap (0 - nxt l (p + 6) 3) = 0 - nxt l (p + 6) 3 by rw [w64] <;> omega, show IntKind.i64.wrap ((0 - nxt l (p + 6) 3) * 65536) = (0 - nxt l (p + 6) 3) * 65536 by rw [w64] <;> omega, show IntKind.i64.wrap (nxt l (p + 6 + 1) 4 * 32768) = nxt l (p + 6 + 1) 4 * 32768 by rw [w64] <;> omega]
        exact ⟨[], ⟨rfl, trivial⟩, ⟨rfl, trivial⟩⟩
      (conv => whnf)
      refine ask_m (fun h => ?_) (fun h => ?_)
      · have e : jSpan l (p + 6) kd = ((0 - nxt l (p + 6) 3) * 65536, nxt l (p + 6 + 1) 4 * 32768, p + 6 + 2) := by unfold jSpan; rw [if_neg k0, if_pos (by simp_all)]
        have a0 := nxt_bd (l := l) (j := p + 6) (m := 3) (by omega)
        have a1 := nxt_bd (l := l) (j := p + 6 + 1) (m := 4) (by omega)
        rw [e]
        (conv => whnf)
        refine call_i (mk_Next l (p + 6) 3 (by omega) (by omega) hl) ?_
        (conv => whnf)
        refine call_i (mk_Next l (p + 6 + 1) 4 (by omega) (by omega) hl) ?_
        (conv => whnf)
        refine ret0 ?_
        rw [show IntKind.i64.wrap (0 - nxt l (p + 6) 3) = 0 - nxt l (p + 6) 3 by rw [w64] <;> omega, show IntKind.i64.wrap ((0 - nxt l (p + 6) 3) * 65536) = (0 - nxt l (p + 6) 3) * 65536 by rw [w64] <;> omega, show IntKind.i64.wrap (nxt l (p + 6 + 1) 4 * 32768) = nxt l (p + 6 + 1) 4 * 32768 by rw [w64] <;> omega]
        exact ⟨[], ⟨rfl, trivial⟩, ⟨rfl, trivial⟩⟩
      · have e : jSpan l (p + 6) kd = ((0 - nxt l (p + 6) 5) * 8192, (1 + nxt l (p + 6 + 1) 4) * 8192 + nxt l (p + 6 + 2) 3, p + 6 + 3) := by unfold jSpan; rw [if_neg k0, if_neg (by simp_all)]
        rw [e]
        have a0 := nxt_bd (l := l) (j := p + 6) (m := 5) (by omega)
        have a1 := nxt_bd (l := l) (j := p + 6 + 1) (m := 4) (by omega)
        have a2 := nxt_bd (l := l) (j := p + 6 + 2) (m := 3) (by omega)
        (conv => whnf)
        refine call_i (mk_Next l (p + 6) 5 (by omega) (by omega) hl) ?_
        (conv => whnf)
        refine ⟨by omega, ?_⟩
        (conv => whnf)
        refine call_i (mk_Next l (p + 6 + 1) 4 (by omega) (by omega) hl) ?_
        (conv => whnf)
        refine ⟨by omega, ?_⟩
        (conv => whnf)
        refine call_i (mk_Next l (p + 6 + 2) 3 (by omega) (by omega) hl) ?_
        (conv => whnf)
        refine ret0 ?_
        rw [w_lo a0.1 a0.2, w_hi a1.1 a1.2 a2.1 a2.2]
        exact ⟨[], ⟨rfl, trivial⟩, ⟨rfl, trivial⟩⟩
    · have h : ¬ 0 < i := by have := of_decide_eq_false h; omega
      have ho : jOff l p i = ⟨0, 0, 0⟩ := by unfold jOff; rw [if_neg h]
      have hq : jAt p i = p + 4 := by unfold jAt; rw [if_neg h]
      rw [ho, hq]
      (conv => whnf)
      refine ask_m (fun h => ?_) (fun h => ?_)
      · have e : jSpan l (p + 4) kd = (0, 0, p + 4) := by unfold jSpan; rw [if_pos (by simpa using h)]
        rw [e]
        (conv => whnf)
        refine ret0 ?_
        exact ⟨[], ⟨rfl, trivial⟩, ⟨rfl, trivial⟩⟩
      have k0 : ¬ kd = 0 := by simpa using h
      (conv => whnf)
      refine ask_m (fun h => ?_) (fun h => ?_)
      · have e : jSpan l (p + 4) kd = ((0 - nxt l (p + 4) 3) * 65536, nxt l (p + 4 + 1) 4 * 32768, p + 4 + 2) := by unfold jSpan; rw [if_neg k0, if_pos (by simp_all)]
        have a0 := nxt_bd (l := l) (j := p + 4) (m := 3) (by omega)
        have a1 := nxt_bd (l := l) (j := p + 4 + 1) (m := 4) (by omega)
        rw [e]
        (conv => whnf)
        refine ask_mt h ?_
        (conv => whnf)
        refine call_i (mk_Next l (p + 4) 3 (by omega) (by omega) hl) ?_
        (conv => whnf)
        refine call_i (mk_Next l (p + 4 + 1) 4 (by omega) (by omega) hl) ?_
        (conv => whnf)
        refine ret0 ?_
        rw [show IntKind.i64.wrap (0 - nxt l (p + 4) 3) = 0 - nxt l (p + 4) 3 by rw [w64] <;> omega, show IntKind.i64.wrap ((0 - nxt l (p + 4) 3) * 65536) = (0 - nxt l (p + 4) 3) * 65536 by rw [w64] <;> omega, show IntKind.i64.wrap (nxt l (p + 4 + 1) 4 * 32768) = nxt l (p + 4 + 1) 4 * 32768 by rw [w64] <;> omega]
        exact ⟨[], ⟨rfl, trivial⟩, ⟨rfl, trivial⟩⟩
      (conv => whnf)
      refine ask_m (fun h => ?_) (fun h => ?_)
      · have e : jSpan l (p + 4) kd = ((0 - nxt l (p + 4) 3) * 65536, nxt l (p + 4 + 1) 4 * 32768, p + 4 + 2) := by unfold jSpan; rw [if_neg k0, if_pos (by simp_all)]
        have a0 := nxt_bd (l := l) (j := p + 4) (m := 3) (by omega)
        have a1 := nxt_bd (l := l) (j := p + 4 + 1) (m := 4) (by omega)
        rw [e]
        (conv => whnf)
        refine call_i (mk_Next l (p + 4) 3 (by omega) (by omega) hl) ?_
        (conv => whnf)
        refine call_i (mk_Next l (p + 4 + 1) 4 (by omega) (by omega) hl) ?_
        (conv => whnf)
        refine ret0 ?_
        rw [show IntKind.i64.wrap (0 - nxt l (p + 4) 3) = 0 - nxt l (p + 4) 3 by rw [w64] <;> omega, show IntKind.i64.wrap ((0 - nxt l (p + 4) 3) * 65536) = (0 - nxt l (p + 4) 3) * 65536 by rw [w64] <;> omega, show IntKind.i64.wrap (nxt l (p + 4 + 1) 4 * 32768) = nxt l (p + 4 + 1) 4 * 32768 by rw [w64] <;> omega]
        exact ⟨[], ⟨rfl, trivial⟩, ⟨rfl, trivial⟩⟩
      · have e : jSpan l (p + 4) kd = ((0 - nxt l (p + 4) 5) * 8192, (1 + nxt l (p + 4 + 1) 4) * 8192 + nxt l (p + 4 + 2) 3, p + 4 + 3) := by unfold jSpan; rw [if_neg k0, if_neg (by simp_all)]
        rw [e]
        have a0 := nxt_bd (l := l) (j := p + 4) (m := 5) (by omega)
        have a1 := nxt_bd (l := l) (j := p + 4 + 1) (m := 4) (by omega)
        have a2 := nxt_bd (l := l) (j := p + 4 + 2) (m := 3) (by omega)
        (conv => whnf)
        refine call_i (mk_Next l (p + 4) 5 (by omega) (by omega) hl) ?_
        (conv => whnf)
        refine ⟨by omega, ?_⟩
        (conv => whnf)
        refine call_i (mk_Next l (p + 4 + 1) 4 (by omega) (by omega) hl) ?_
        (conv => whnf)
        refine ⟨by omega, ?_⟩
        (conv => whnf)
        refine call_i (mk_Next l (p + 4 + 2) 3 (by omega) (by omega) hl) ?_
        (conv => whnf)
        refine ret0 ?_
        rw [w_lo a0.1 a0.2, w_hi a1.1 a1.2 a2.1 a2.2]
        exact ⟨[], ⟨rfl, trivial⟩, ⟨rfl, trivial⟩⟩
  · have hp : jParent l p i = (i : Int) - 1 := by unfold jParent; rw [if_neg (by simpa using h)]
    rw [hp]
    (conv => whnf)
    refine ask_m (fun h => ?_) (fun h => ?_)
    · have h : 0 < i := by have := of_decide_eq_true h; omega
      have ho : jOff l p i = ⟨131072, (nxt l (p + 4) 5 - 2) * 32768, (nxt l (p + 5) 3 - 1) * 32768⟩ := by unfold jOff; rw [if_pos h]
      have hq : jAt p i = p + 6 := by unfold jAt; rw [if_pos h]
      rw [ho, hq]
      (conv => whnf)
      refine call_i (mk_Signed l (p + 4) 2 5 (by omega) (by omega) (by omega) hl) ?_
      (conv => whnf)
      refine call_i (mk_Signed l (p + 5) 1 3 (by omega) (by omega) (by omega) hl) ?_
      (conv => whnf)
      have s4 := nxt_bd (l := l) (j := p + 4) (m := 5) (by omega)
      have s5 := nxt_bd (l := l) (j := p + 5) (m := 3) (by omega)
      rw [show IntKind.i64.wrap ((nxt l (p + 4) 5 - 2) * 32768) = (nxt l (p + 4) 5 - 2) * 32768 by rw [w64] <;> omega, show IntKind.i64.wrap ((nxt l (p + 5) 3 - 1) * 32768) = (nxt l (p + 5) 3 - 1) * 32768 by rw [w64] <;> omega]
      refine ask_m (fun h => ?_) (fun h => ?_)
      · have e : jSpan l (p + 6) kd = (0, 0, p + 6) := by unfold jSpan; rw [if_pos (by simpa using h)]
        rw [e]
        (conv => whnf)
        refine ret0 ?_
        exact ⟨[], ⟨rfl, trivial⟩, ⟨rfl, trivial⟩⟩
      have k0 : ¬ kd = 0 := by simpa using h
      (conv => whnf)
      refine ask_m (fun h => ?_) (fun h => ?_)
      · have e : jSpan l (p + 6) kd = ((0 - nxt l (p + 6) 3) * 65536, nxt l (p + 6 + 1) 4 * 32768, p + 6 + 2) := by unfold jSpan; rw [if_neg k0, if_pos (by simp_all)]
        have a0 := nxt_bd (l := l) (j := p + 6) (m := 3) (by omega)
        have a1 := nxt_bd (l := l) (j := p + 6 + 1) (m := 4) (by omega)
        rw [e]
        (conv => whnf)
        refine ask_mt h ?_
        (conv => whnf)
        refine call_i (mk_Next l (p + 6) 3 (by omega) (by omega) hl) ?_
        (conv => whnf)
        refine call_i (mk_Next l (p + 6 + 1) 4 (by omega) (by omega) hl) ?_
        (conv => whnf)
        refine ret0 ?_
        rw [show IntKind.i64.wrap (0 - nxt l (p + 6) 3) = 0 - nxt l (p + 6) 3 by rw [w64] <;> omega, show IntKind.i64.wrap ((0 - nxt l (p + 6) 3) * 65536) = (0 - nxt l (p + 6) 3) * 65536 by rw [w64] <;> omega, show IntKind.i64.wrap (nxt l (p + 6 + 1) 4 * 32768) = nxt l (p + 6 + 1) 4 * 32768 by rw [w64] <;> omega]
        exact ⟨[], ⟨rfl, trivial⟩, ⟨rfl, trivial⟩⟩
      (conv => whnf)
      refine ask_m (fun h => ?_) (fun h => ?_)
      · have e : jSpan l (p + 6) kd = ((0 - nxt l (p + 6) 3) * 65536, nxt l (p + 6 + 1) 4 * 32768, p + 6 + 2) := by unfold jSpan; rw [if_neg k0, if_pos (by simp_all)]
        have a0 := nxt_bd (l := l) (j := p + 6) (m := 3) (by omega)
        have a1 := nxt_bd (l := l) (j := p + 6 + 1) (m := 4) (by omega)
        rw [e]
        (conv => whnf)
        refine call_i (mk_Next l (p + 6) 3 (by omega) (by omega) hl) ?_
        (conv => whnf)
        refine call_i (mk_Next l (p + 6 + 1) 4 (by omega) (by omega) hl) ?_
        (conv => whnf)
        refine ret0 ?_
        rw [show IntKind.i64.wrap (0 - nxt l (p + 6) 3) = 0 - nxt l (p + 6) 3 by rw [w64] <;> omega, show IntKind.i64.wrap ((0 - nxt l (p + 6) 3) * 65536) = (0 - nxt l (p + 6) 3) * 65536 by rw [w64] <;> omega, show IntKind.i64.wrap (nxt l (p + 6 + 1) 4 * 32768) = nxt l (p + 6 + 1) 4 * 32768 by rw [w64] <;> omega]
        exact ⟨[], ⟨rfl, trivial⟩, ⟨rfl, trivial⟩⟩
      · have e : jSpan l (p + 6) kd = ((0 - nxt l (p + 6) 5) * 8192, (1 + nxt l (p + 6 + 1) 4) * 8192 + nxt l (p + 6 + 2) 3, p + 6 + 3) := by unfold jSpan; rw [if_neg k0, if_neg (by simp_all)]
        rw [e]
        have a0 := nxt_bd (l := l) (j := p + 6) (m := 5) (by omega)
        have a1 := nxt_bd (l := l) (j := p + 6 + 1) (m := 4) (by omega)
        have a2 := nxt_bd (l := l) (j := p + 6 + 2) (m := 3) (by omega)
        (conv => whnf)
        refine call_i (mk_Next l (p + 6) 5 (by omega) (by omega) hl) ?_
        (conv => whnf)
        refine ⟨by omega, ?_⟩
        (conv => whnf)
        refine call_i (mk_Next l (p + 6 + 1) 4 (by omega) (by omega) hl) ?_
        (conv => whnf)
        refine ⟨by omega, ?_⟩
        (conv => whnf)
        refine call_i (mk_Next l (p + 6 + 2) 3 (by omega) (by omega) hl) ?_
        (conv => whnf)
        refine ret0 ?_
        rw [w_lo a0.1 a0.2, w_hi a1.1 a1.2 a2.1 a2.2]
        exact ⟨[], ⟨rfl, trivial⟩, ⟨rfl, trivial⟩⟩
    · have h : ¬ 0 < i := by have := of_decide_eq_false h; omega
      have ho : jOff l p i = ⟨0, 0, 0⟩ := by unfold jOff; rw [if_neg h]
      have hq : jAt p i = p + 4 := by unfold jAt; rw [if_neg h]
      rw [ho, hq]
      (conv => whnf)
      refine ask_m (fun h => ?_) (fun h => ?_)
      · have e : jSpan l (p + 4) kd = (0, 0, p + 4) := by unfold jSpan; rw [if_pos (by simpa using h)]
        rw [e]
        (conv => whnf)
        refine ret0 ?_
        exact ⟨[], ⟨rfl, trivial⟩, ⟨rfl, trivial⟩⟩
      have k0 : ¬ kd = 0 := by simpa using h
      (conv => whnf)
      refine ask_m (fun h => ?_) (fun h => ?_)
      · have e : jSpan l (p + 4) kd = ((0 - nxt l (p + 4) 3) * 65536, nxt l (p + 4 + 1) 4 * 32768, p + 4 + 2) := by unfold jSpan; rw [if_neg k0, if_pos (by simp_all)]
        have a0 := nxt_bd (l := l) (j := p + 4) (m := 3) (by omega)
        have a1 := nxt_bd (l := l) (j := p + 4 + 1) (m := 4) (by omega)
        rw [e]
        (conv => whnf)
        refine ask_mt h ?_
        (conv => whnf)
        refine call_i (mk_Next l (p + 4) 3 (by omega) (by omega) hl) ?_
        (conv => whnf)
        refine call_i (mk_Next l (p + 4 + 1) 4 (by omega) (by omega) hl) ?_
        (conv => whnf)
        refine ret0 ?_
        rw [show IntKind.i64.wrap (0 - nxt l (p + 4) 3) = 0 - nxt l (p + 4) 3 by rw [w64] <;> omega, show IntKind.i64.wrap ((0 - nxt l (p + 4) 3) * 65536) = (0 - nxt l (p + 4) 3) * 65536 by rw [w64] <;> omega, show IntKind.i64.wrap (nxt l (p + 4 + 1) 4 * 32768) = nxt l (p + 4 + 1) 4 * 32768 by rw [w64] <;> omega]
        exact ⟨[], ⟨rfl, trivial⟩, ⟨rfl, trivial⟩⟩
      (conv => whnf)
      refine ask_m (fun h => ?_) (fun h => ?_)
      · have e : jSpan l (p + 4) kd = ((0 - nxt l (p + 4) 3) * 65536, nxt l (p + 4 + 1) 4 * 32768, p + 4 + 2) := by unfold jSpan; rw [if_neg k0, if_pos (by simp_all)]
        have a0 := nxt_bd (l := l) (j := p + 4) (m := 3) (by omega)
        have a1 := nxt_bd (l := l) (j := p + 4 + 1) (m := 4) (by omega)
        rw [e]
        (conv => whnf)
        refine call_i (mk_Next l (p + 4) 3 (by omega) (by omega) hl) ?_
        (conv => whnf)
        refine call_i (mk_Next l (p + 4 + 1) 4 (by omega) (by omega) hl) ?_
        (conv => whnf)
        refine ret0 ?_
        rw [show IntKind.i64.wrap (0 - nxt l (p + 4) 3) = 0 - nxt l (p + 4) 3 by rw [w64] <;> omega, show IntKind.i64.wrap ((0 - nxt l (p + 4) 3) * 65536) = (0 - nxt l (p + 4) 3) * 65536 by rw [w64] <;> omega, show IntKind.i64.wrap (nxt l (p + 4 + 1) 4 * 32768) = nxt l (p + 4 + 1) 4 * 32768 by rw [w64] <;> omega]
        exact ⟨[], ⟨rfl, trivial⟩, ⟨rfl, trivial⟩⟩
      · have e : jSpan l (p + 4) kd = ((0 - nxt l (p + 4) 5) * 8192, (1 + nxt l (p + 4 + 1) 4) * 8192 + nxt l (p + 4 + 2) 3, p + 4 + 3) := by unfold jSpan; rw [if_neg k0, if_neg (by simp_all)]
        rw [e]
        have a0 := nxt_bd (l := l) (j := p + 4) (m := 5) (by omega)
        have a1 := nxt_bd (l := l) (j := p + 4 + 1) (m := 4) (by omega)
        have a2 := nxt_bd (l := l) (j := p + 4 + 2) (m := 3) (by omega)
        (conv => whnf)
        refine call_i (mk_Next l (p + 4) 5 (by omega) (by omega) hl) ?_
        (conv => whnf)
        refine ⟨by omega, ?_⟩
        (conv => whnf)
        refine call_i (mk_Next l (p + 4 + 1) 4 (by omega) (by omega) hl) ?_
        (conv => whnf)
        refine ⟨by omega, ?_⟩
        (conv => whnf)
        refine call_i (mk_Next l (p + 4 + 2) 3 (by omega) (by omega) hl) ?_
        (conv => whnf)
        refine ret0 ?_
        rw [w_lo a0.1 a0.2, w_hi a1.1 a1.2 a2.1 a2.2]
        exact ⟨[], ⟨rfl, trivial⟩, ⟨rfl, trivial⟩⟩
end Go.Proofs.Ytgnblfojpcjgmaa

/- The makers: points. -/
namespace Go.Proofs.Ytgnblfojpcjgmaa
open Eng
set_option maxRecDepth 10000
attribute [local irreducible] FnOk loopW idxF retX arrF

def mkPt (l : List Int) (b : Vec) (q : Nat) : Vec := ⟨b.x + (nxt l q 7 - 3) * 32768, b.y + (nxt l (q + 1) 5 - 2) * 32768, b.z + (nxt l (q + 2) 5 - 2) * 32768⟩
def ptsTo (l : List Int) (b : Vec) (p k : Nat) : List Vec := b :: (List.range k).map fun i => mkPt l b (p + 1 + 3 * i)
def nPts (l : List Int) (p : Nat) : Nat := (nxt l p 4).toNat
def mkPts (l : List Int) (b : Vec) (p : Nat) : List Vec := ptsTo l b p (nPts l p)
def mkPtsAt (l : List Int) (p : Nat) : Nat := p + 1 + 3 * nPts l p
theorem ptsTo_succ (l : List Int) (b : Vec) (p k : Nat) : ptsTo l b p (k + 1) = ptsTo l b p k ++ [mkPt l b (p + 1 + 3 * k)] := by
  simp [ptsTo, List.range_succ]
def near (b : Vec) : Prop := (-1099511627776 ≤ b.x ∧ b.x ≤ 1099511627776) ∧ (-1099511627776 ≤ b.y ∧ b.y ≤ 1099511627776) ∧ (-1099511627776 ≤ b.z ∧ b.z ≤ 1099511627776)
theorem w_co {a c : Int} (h1 : -1099511627776 ≤ a) (h2 : a ≤ 1099511627776) (h3 : -10000 ≤ c) (h4 : c ≤ 10000) : IntKind.i64.wrap (a + IntKind.i64.wrap (c * 32768)) = a + c * 32768 := by
  rw [w64 (x := c * 32768) (by omega) (by omega), w64] <;> omega
theorem mk_points (l : List Int) (p : Nat) (b : Vec) (hl : l.length ≤ 4611686018427387904) (hb : near b) : FnOk Try.prog F.mk_points [.one (.vptr 0 0), Ve b] [(0, SrcJ l p)] 1 (.one (.dv (dVs (mkPts l b p)))) [(0, SrcJ l (mkPtsAt l p))] 1 := by
  refine fnOk tab mix G.mk_points rfl rfl (by kernel_rfl) rfl rfl ?_
  obtain ⟨⟨b1, b2⟩, ⟨b3, b4⟩, b5, b6⟩ := hb
  have n0 := nxt_bd (l := l) (j := p) (m := 4) (by omega)
  obtain ⟨n, hn⟩ : ∃ n : Nat, nxt l p 4 = n := ⟨(nxt l p 4).toNat, by omega⟩
  have hn2 : nPts l p = n := by simp [nPts, hn]
  rw [mkPts, mkPtsAt, hn2]
  (conv => whnf)
  refine call_i (mk_Next l p 4 (by omega) (by omega) hl) ?_
  (conv => whnf)
  rw [hn]
  refine loop_intro (fun k : Nat => ⟨[(0, .one (.vptr 0 0)), (3, .one (.vptr 1 0)), (5, .one (.row 2)), (6, I ((n : Int) - k))], [(0, SrcJ l (p + 1 + 3 * k)), (1, .vars Y.Vec [.dv (.int .i64 b.x), .dv (.int .i64 b.y), .dv (.int .i64 b.z)]), (2, .rows Y.Vec 3 ((ptsTo l b p k).map encV))], 3⟩) (fun k => k ≤ n) (fun k => n - k) [] 0 [] (Nat.zero_le _) ⟨⟨rfl, rfl, rfl, eqI (by simp), trivial⟩, ⟨rfl, rfl, rfl, trivial⟩⟩ ?_
  rintro k hk
  (conv => whnf)
  refine ask_m (fun h => ?_) (fun h => ?_)
  · have hlt : k < n := by have := of_decide_eq_true h; omega
    (conv => whnf)
    refine ⟨⟨by omega, by omega⟩, ?_⟩
    (conv => whnf)
    refine call_i (mk_Signed l (p + 1 + 3 * k) 3 7 (by omega) (by omega) (by omega) hl) ?_
    (conv => whnf)
    refine ⟨⟨by omega, by omega⟩, ?_⟩
    (conv => whnf)
    refine call_i (mk_Signed l (p + 1 + 3 * k + 1) 2 5 (by omega) (by omega) (by omega) hl) ?_
    (conv => whnf)
    refine ⟨⟨by omega, by omega⟩, ?_⟩
    (conv => whnf)
    refine call_i (mk_Signed l (p + 1 + 3 * k + 2) 2 5 (by omega) (by omega) (by omega) hl) ?_
    (conv => whnf)
    have hlen : (ptsTo l b p k).length = k + 1 := by simp [ptsTo]
    refine ⟨⟨by simp; omega, by simp; omega⟩, ?_⟩
    (conv => whnf)
    have s0 := nxt_bd (l := l) (j := p + 1 + 3 * k) (m := 7) (by omega)
    have s1 := nxt_bd (l := l) (j := p + 1 + 3 * k + 1) (m := 5) (by omega)
    have s2 := nxt_bd (l := l) (j := p + 1 + 3 * k + 2) (m := 5) (by omega)
    refine ⟨k + 1, [(2, 4)], hlt, by omega, ⟨⟨rfl, rfl, rfl, eqI ?_, trivial⟩, ⟨?_, rfl, ?_, trivial⟩⟩⟩
    · rw [w64] <;> omega
    · rw [show p + 1 + 3 * (k + 1) = p + 1 + 3 * k + 3 by omega]; rfl
    · rw [ptsTo_succ]
      rw [w_co b1 b2 (by omega) (by omega), w_co b3 b4 (by omega) (by omega), w_co b5 b6 (by omega) (by omega)]
      rw [List.map_append]
      rfl
  · have hk : k = n := by have := of_decide_eq_false h; omega
    subst hk
    (conv => whnf)
    refine retO [.frz 2] ?_
    (conv => whnf)
    exact ⟨[], ⟨rfl, trivial⟩, ⟨rfl, trivial⟩⟩
end Go.Proofs.Ytgnblfojpcjgmaa

/- The makers: robots. -/
namespace Go.Proofs.Ytgnblfojpcjgmaa
open Eng
set_option maxRecDepth 10000
attribute [local irreducible] FnOk loopW idxF retX arrF

def jPos (l : List Int) (p : Nat) : Nat → Nat
  | 0 => p
  | k + 1 => mkJointAt l (jPos l p k) k
def mkJoints (l : List Int) (p k : Nat) : List Joint := (List.range k).map fun i => mkJoint l (jPos l p i) i
theorem mkJoints_succ (l : List Int) (p k : Nat) : mkJoints l p (k + 1) = mkJoints l p k ++ [mkJoint l (jPos l p k) k] := by
  simp [mkJoints, List.range_succ]
def mkMass (l : List Int) (n : Nat) (q : Nat) : Mass := ⟨nxt l q n, 1 + nxt l (q + 1) 9000, ⟨(nxt l (q + 2) 7 - 3) * 32768, 0, (nxt l (q + 3) 5 - 2) * 32768⟩⟩
def mkMasses (l : List Int) (n q k : Nat) : List Mass := (List.range k).map fun i => mkMass l n (q + 1 + 4 * i)
theorem mkMasses_succ (l : List Int) (n q k : Nat) : mkMasses l n q (k + 1) = mkMasses l n q k ++ [mkMass l n (q + 1 + 4 * k)] := by
  simp [mkMasses, List.range_succ]
def nJ (l : List Int) (p : Nat) : Nat := 1 + (nxt l p 3).toNat
def qM (l : List Int) (p : Nat) : Nat := jPos l (p + 1) (nJ l p)
def nM (l : List Int) (p : Nat) : Nat := (nxt l (qM l p) 3).toNat
def mkRobot (l : List Int) (p : Nat) : Robot := ⟨mkJoints l (p + 1) (nJ l p), mkMasses l (nJ l p) (qM l p) (nM l p)⟩
def mkRobotAt (l : List Int) (p : Nat) : Nat := qM l p + 1 + 4 * nM l p
theorem mk_robot (l : List Int) (p : Nat) (hl : l.length ≤ 4611686018427387904) : FnOk Try.prog F.mk_robot [.one (.vptr 0 0)] [(0, SrcJ l p)] 1 (Ro (mkRobot l p)) [(0, SrcJ l (mkRobotAt l p))] 1 := by
  refine fnOk tab mix G.mk_robot rfl rfl (by kernel_rfl) rfl rfl ?_
  have n0 := nxt_bd (l := l) (j := p) (m := 3) (by omega)
  have hn : IntKind.i64.wrap (1 + nxt l p 3) = (nJ l p : Nat) := by
    rw [w64 (by omega) (by omega)]; unfold nJ; omega
  have hn2 : nJ l p ≤ 3 := by unfold nJ; omega
  have hn1 : 1 ≤ nJ l p := by unfold nJ; omega
  rw [mkRobotAt, mkRobot, nM, qM]
  (conv => whnf)
  refine call_i (mk_Next l p 3 (by omega) (by omega) hl) ?_
  (conv => whnf)
  rw [hn]
  generalize nJ l p = n at *
  refine loop_intro (fun k : Nat => ⟨[(0, .one (.vptr 0 0)), (2, .one (.vptr 1 0)), (3, .one (.vptr 2 0)), (4, I n), (5, I k)], [(0, SrcJ l (jPos l (p + 1) k)), (1, .vars Y.Robot [.nil 12, .nil 5]), (2, .vars Y.Robot [.row 3, .nil 5]), (3, .rows Y.Joint 12 ((mkJoints l (p + 1) k).map encJ))], 4⟩) (fun k => k ≤ n) (fun k => n - k) [.ownC 2 0 Y.Joint 12] 0 [] (Nat.zero_le _) ⟨⟨rfl, rfl, rfl, rfl, rfl, trivial⟩, ⟨rfl, rfl, rfl, rfl, trivial⟩⟩ ?_
  rintro k hk
  (conv => whnf)
  refine ask_m (fun h => ?_) (fun h => ?_)
  · have hlt : k < n := by have := of_decide_eq_true h; omega
    (conv => whnf)
    refine call_i (mk_joint l (jPos l (p + 1) k) k hl (by omega)) ?_
    (conv => whnf)
    have hlen : (mkJoints l (p + 1) k).length = k := by simp [mkJoints]
    have hkk : IntKind.i64.wrap ((k : Int) + 1) = ((k + 1 : Nat) : Int) := by rw [w64] <;> omega
    refine ⟨⟨by simp; omega, by simp; omega⟩, ?_⟩
    (conv => whnf)
    refine ⟨k + 1, [(3, 5)], hlt, by omega, ⟨⟨rfl, rfl, rfl, rfl, eqI hkk, trivial⟩, ⟨rfl, rfl, rfl, ?_, trivial⟩⟩⟩
    rw [mkJoints_succ, List.map_append]; rfl
  · have hk : k = n := by have := of_decide_eq_false h; omega
    subst hk
    (conv => whnf)
    refine call_i (mk_Next l (jPos l (p + 1) k) 3 (by omega) (by omega) hl) ?_
    (conv => whnf)
    generalize hq : jPos l (p + 1) k = q
    have c0 := nxt_bd (l := l) (j := q) (m := 3) (by omega)
    obtain ⟨c, hc⟩ : ∃ c : Nat, nxt l q 3 = c := ⟨(nxt l q 3).toNat, by omega⟩
    rw [hc, Int.toNat_natCast]
    refine loop_intro (fun i : Nat => ⟨[(0, .one (.vptr 0 0)), (2, .one (.vptr 1 0)), (3, .one (.vptr 2 0)), (4, I k), (6, I ((c : Int) - i))], [(0, SrcJ l (q + 1 + 4 * i)), (1, .vars Y.Robot [.nil 12, .nil 5]), (2, .vars Y.Robot [.row 3, .row 4]), (3, .rows Y.Joint 12 ((mkJoints l (p + 1) k).map encJ)), (4, .rows Y.Mass 5 ((mkMasses l k q i).map encM))], 5⟩) (fun i => i ≤ c) (fun i => c - i) [.ownC 2 1 Y.Mass 5] 0 [] (Nat.zero_le _) ⟨⟨rfl, rfl, rfl, rfl, eqI (by simp), trivial⟩, ⟨rfl, rfl, rfl, rfl, rfl, trivial⟩⟩ ?_
    rintro i hi
    (conv => whnf)
    refine ask_m (fun h => ?_) (fun h => ?_)
    · have hlt : i < c := by have := of_decide_eq_true h; omega
      (conv => whnf)
      refine call_i (mk_Next l (q + 1 + 4 * i) k (by omega) (by omega) hl) ?_
      (conv => whnf)
      refine call_i (mk_Next l (q + 1 + 4 * i + 1) 9000 (by omega) (by omega) hl) ?_
      (conv => whnf)
      refine call_i (mk_Signed l (q + 1 + 4 * i + 2) 3 7 (by omega) (by omega) (by omega) hl) ?_
      (conv => whnf)
      refine call_i (mk_Signed l (q + 1 + 4 * i + 3) 2 5 (by omega) (by omega) (by omega) hl) ?_
      (conv => whnf)
      have hlen : (mkMasses l k q i).length = i := by simp [mkMasses]
      refine ⟨⟨by simp; omega, by simp; omega⟩, ?_⟩
      (conv => whnf)
      have s1 := nxt_bd (l := l) (j := q + 1 + 4 * i + 1) (m := 9000) (by omega)
      have s2 := nxt_bd (l := l) (j := q + 1 + 4 * i + 2) (m := 7) (by omega)
      have s3 := nxt_bd (l := l) (j := q + 1 + 4 * i + 3) (m := 5) (by omega)
      refine ⟨i + 1, [(4, 6)], hlt, by omega, ⟨⟨rfl, rfl, rfl, rfl, eqI ?_, trivial⟩, ⟨?_, rfl, rfl, rfl, ?_, trivial⟩⟩⟩
      · rw [w64] <;> omega
      · rw [show q + 1 + 4 * (i + 1) = q + 1 + 4 * i + 4 by omega]; rfl
      · rw [mkMasses_succ, List.map_append, show IntKind.i64.wrap (1 + nxt l (q + 1 + 4 * i + 1) 9000) = 1 + nxt l (q + 1 + 4 * i + 1) 9000 by rw [w64] <;> omega, show IntKind.i64.wrap ((nxt l (q + 1 + 4 * i + 2) 7 - 3) * 32768) = (nxt l (q + 1 + 4 * i + 2) 7 - 3) * 32768 by rw [w64] <;> omega, show IntKind.i64.wrap ((nxt l (q + 1 + 4 * i + 3) 5 - 2) * 32768) = (nxt l (q + 1 + 4 * i + 3) 5 - 2) * 32768 by rw [w64] <;> omega]
        rfl
    · have hi : i = c := by have := of_decide_eq_false h; omega
      subst hi
      (conv => whnf)
      refine retO [.frz 3, .frz 4] ?_
      (conv => whnf)
      exact ⟨[], ⟨rfl, trivial⟩, ⟨rfl, trivial⟩⟩
end Go.Proofs.Ytgnblfojpcjgmaa

/- The makers: scenes. -/
namespace Go.Proofs.Ytgnblfojpcjgmaa
open Eng
set_option maxRecDepth 10000
attribute [local irreducible] FnOk loopW idxF retX arrF

def shPos (l : List Int) (q : Nat) : Nat → Nat
  | 0 => q
  | k + 1 => if nxt l (shPos l q k) 5 < 4 then mkPtsAt l (shPos l q k + 3) else shPos l q k + 1
def shOf (l : List Int) (q i : Nat) : List Shape := if nxt l q 5 < 4 then [⟨i, (1 + nxt l (q + 1) 3) * 8192, mkPts l ⟨nxt l (q + 2) 4 * 32768, 0, 0⟩ (q + 3)⟩] else []
def shLinks (l : List Int) (q k : Nat) : List Shape := (List.range k).flatMap fun i => shOf l (shPos l q i) i
theorem shLinks_succ (l : List Int) (q k : Nat) : shLinks l q (k + 1) = shLinks l q k ++ shOf l (shPos l q k) k := by
  simp [shLinks, List.range_succ]
theorem shLinks_len (l : List Int) (q k : Nat) : (shLinks l q k).length ≤ k := by
  induction k with
  | zero => simp [shLinks]
  | succ k ih =>
    rw [shLinks_succ, List.length_append]
    have : (shOf l (shPos l q k) k).length ≤ 1 := by unfold shOf; split <;> simp
    omega
def wPos (l : List Int) (q : Nat) : Nat → Nat
  | 0 => q
  | k + 1 => mkPtsAt l (wPos l q k + 4)
def shW (l : List Int) (q : Nat) : Shape := ⟨-1, (1 + nxt l (q + 3) 4) * 8192, mkPts l ⟨(nxt l q 19 - 9) * 32768, (nxt l (q + 1) 19 - 9) * 32768, (nxt l (q + 2) 5 - 2) * 32768⟩ (q + 4)⟩
def shWs (l : List Int) (q k : Nat) : List Shape := (List.range k).map fun i => shW l (wPos l q i)
theorem shWs_succ (l : List Int) (q k : Nat) : shWs l q (k + 1) = shWs l q k ++ [shW l (wPos l q k)] := by
  simp [shWs, List.range_succ]
def scQ1 (l : List Int) : Nat := shPos l (mkRobotAt l 0) (mkRobot l 0).joints.length
def scN (l : List Int) : Nat := 1 + (nxt l (scQ1 l) 3).toNat
def scQ2 (l : List Int) : Nat := wPos l (scQ1 l + 1) (scN l)
def mkSkips (l : List Int) (q n : Nat) : List Skip := if nxt l q 5 = 1 then [⟨-1, nxt l (q + 1) n⟩] else []
def mkScene (l : List Int) : Scene := ⟨mkRobot l 0, shLinks l (mkRobotAt l 0) (mkRobot l 0).joints.length ++ shWs l (scQ1 l + 1) (scN l), mkSkips l (scQ2 l) (mkRobot l 0).joints.length⟩
theorem w_rad {a : Int} (h0 : 0 ≤ a) (h1 : a < 4) : IntKind.i64.wrap ((IntKind.i64.wrap (IntKind.i64.wrap (1 + a) * 65536)).tdiv 8) = (1 + a) * 8192 := by
  rw [w64 (x := 1 + a) (by omega) (by omega), w64 (x := (1 + a) * 65536) (by omega) (by omega), show (1 + a) * 65536 = ((1 + a) * 8192) * 8 by omega, Int.mul_tdiv_cancel _ (by decide), w64] <;> omega
theorem near_mk {x y z : Int} (hx : -1099511627776 ≤ x ∧ x ≤ 1099511627776) (hy : -1099511627776 ≤ y ∧ y ≤ 1099511627776) (hz : -1099511627776 ≤ z ∧ z ≤ 1099511627776) : near ⟨x, y, z⟩ := ⟨hx, hy, hz⟩
theorem joints_len (l : List Int) (p : Nat) : 1 ≤ (mkRobot l p).joints.length ∧ (mkRobot l p).joints.length ≤ 3 := by
  have := nxt_bd (l := l) (j := p) (m := 3) (by omega)
  simp [mkRobot, mkJoints, nJ]; omega
theorem mk_Scene (l : List Int) (hl : l.length ≤ 4611686018427387904) : FnOk Try.prog F.mk_Scene [Li l] [] 0 (Sc (mkScene l)) [] 0 := by
  refine fnOk tab mix G.mk_Scene rfl rfl (by kernel_rfl) rfl rfl ?_
  have hn := joints_len l 0
  have hS : mkScene l = ⟨mkRobot l 0, shLinks l (mkRobotAt l 0) (mkRobot l 0).joints.length ++ shWs l (scQ1 l + 1) (scN l), mkSkips l (scQ2 l) (mkRobot l 0).joints.length⟩ := rfl
  rw [hS, scQ2, scN, scQ1]
  (conv => whnf)
  refine call_i (mk_From l) ?_
  (conv => whnf)
  refine call_i (mk_robot l 0 hl) ?_
  (conv => whnf)
  generalize mkRobot l 0 = r at *
  generalize mkRobotAt l 0 = q0
  refine loop_intro (fun k : Nat => ⟨[(2, .one (.vptr 0 0)), (3, .one (.vptr 1 0)), (4, .one (.vptr 2 0)), (5, I k)], [(0, .vars Y.Scene [.nil 12, .nil 5, .nil 3, .nil 2]), (1, SrcJ l (shPos l q0 k)), (2, .vars Y.Scene [.dv (dJs r.joints), .dv (dMs r.masses), .row 3, .nil 2]), (3, .rows Y.Shape 3 ((shLinks l q0 k).map encSh))], 4⟩) (fun k => k ≤ r.joints.length) (fun k => r.joints.length - k) [.ownC 2 2 Y.Shape 3] 0 [] (Nat.zero_le _) ⟨⟨rfl, rfl, rfl, rfl, trivial⟩, ⟨rfl, rfl, rfl, rfl, trivial⟩⟩ ?_
  rintro k hk
  (conv => whnf)
  refine ask_m (fun h => ?_) (fun h => ?_)
  · have hlt : k < r.joints.length := by simpa using h
    have hkk : IntKind.i64.wrap ((k : Int) + 1) = ((k + 1 : Nat) : Int) := by rw [w64] <;> omega
    have hll := shLinks_len l q0 k
    have hsucc := shLinks_succ l q0 k
    have hpos : shPos l q0 (k + 1) = if nxt l (shPos l q0 k) 5 < 4 then mkPtsAt l (shPos l q0 k + 3) else shPos l q0 k + 1 := rfl
    generalize shPos l q0 k = q at *
    (conv => whnf)
    refine call_i (mk_Next l q 5 (by omega) (by omega) hl) ?_
    (conv => whnf)
    refine ask_m (fun h => ?_) (fun h => ?_)
    · have h := of_decide_eq_true h
      rw [if_pos h] at hpos
      rw [shOf, if_pos h] at hsucc
      have s1 := nxt_bd (l := l) (j := q + 1) (m := 3) (by omega)
      have s2 := nxt_bd (l := l) (j := q + 2) (m := 4) (by omega)
      (conv => whnf)
      refine call_i (mk_Next l (q + 1) 3 (by omega) (by omega) hl) ?_
      (conv => whnf)
      refine ⟨by omega, ?_⟩
      (conv => whnf)
      refine call_i (mk_Next l (q + 2) 4 (by omega) (by omega) hl) ?_
      (conv => whnf)
      rw [w64 (x := nxt l (q + 2) 4 * 32768) (by omega) (by omega), w_rad s1.1 (by omega)]
      refine call_i (mk_points l (q + 3) ⟨nxt l (q + 2) 4 * 32768, 0, 0⟩ hl (near_mk (by omega) (by omega) (by omega))) ?_
      (conv => whnf)
      refine ⟨⟨by simp; omega, by simp; omega⟩, ?_⟩
      (conv => whnf)
      refine ⟨k + 1, [(3, 5)], hlt, by omega, ⟨⟨rfl, rfl, rfl, eqI hkk, trivial⟩, ⟨rfl, ?_, rfl, ?_, trivial⟩⟩⟩
      · rw [hpos]; rfl
      · rw [hsucc, List.map_append]; rfl
    · have h := of_decide_eq_false h
      rw [if_neg h] at hpos
      rw [shOf, if_neg h, List.append_nil] at hsucc
      (conv => whnf)
      refine ⟨k + 1, [], hlt, by omega, ⟨⟨rfl, rfl, rfl, eqI hkk, trivial⟩, ⟨rfl, ?_, rfl, ?_, trivial⟩⟩⟩
      · rw [hpos]; rfl
      · rw [hsucc]; rfl
  · have hk : k = r.joints.length := by simp at h; omega
    subst hk
    generalize hq1 : shPos l q0 r.joints.length = q1
    have hll := shLinks_len l q0 r.joints.length
    generalize shLinks l q0 r.joints.length = ls at *
    have c0 := nxt_bd (l := l) (j := q1) (m := 3) (by omega)
    obtain ⟨c, hc⟩ : ∃ c : Nat, 1 + (nxt l q1 3).toNat = c := ⟨_, rfl⟩
    have hc1 : IntKind.i64.wrap (1 + nxt l q1 3) = (c : Int) := by rw [w64] <;> omega
    rw [hc]
    (conv => whnf)
    refine call_i (mk_Next l q1 3 (by omega) (by omega) hl) ?_
    (conv => whnf)
    rw [hc1]
    refine loop_intro (fun k : Nat => ⟨[(2, .one (.vptr 0 0)), (3, .one (.vptr 1 0)), (4, .one (.vptr 2 0)), (6, I ((c : Int) - k))], [(0, .vars Y.Scene [.nil 12, .nil 5, .nil 3, .nil 2]), (1, SrcJ l (wPos l (q1 + 1) k)), (2, .vars Y.Scene [.dv (dJs r.joints), .dv (dMs r.masses), .row 3, .nil 2]), (3, .rows Y.Shape 3 ((ls ++ shWs l (q1 + 1) k).map encSh))], 4⟩) (fun k => k ≤ c) (fun k => c - k) [] 0 [] (Nat.zero_le _) ⟨⟨rfl, rfl, rfl, eqI (by simp), trivial⟩, ⟨rfl, rfl, rfl, ?_, trivial⟩⟩ ?_
    · simp [shWs]; rfl
    rintro k hk
    (conv => whnf)
    refine ask_m (fun h => ?_) (fun h => ?_)
    · have hlt : k < c := by have := of_decide_eq_true h; omega
      have hlen : (shWs l (q1 + 1) k).length = k := by simp [shWs]
      have hsucc := shWs_succ l (q1 + 1) k
      have hpos : wPos l (q1 + 1) (k + 1) = mkPtsAt l (wPos l (q1 + 1) k + 4) := rfl
      generalize wPos l (q1 + 1) k = q at *
      have s0 := nxt_bd (l := l) (j := q) (m := 19) (by omega)
      have s1 := nxt_bd (l := l) (j := q + 1) (m := 19) (by omega)
      have s2 := nxt_bd (l := l) (j := q + 2) (m := 5) (by omega)
      have s3 := nxt_bd (l := l) (j := q + 3) (m := 4) (by omega)
      (conv => whnf)
      refine call_i (mk_Signed l q 9 19 (by omega) (by omega) (by omega) hl) ?_
      (conv => whnf)
      refine call_i (mk_Signed l (q + 1) 9 19 (by omega) (by omega) (by omega) hl) ?_
      (conv => whnf)
      refine call_i (mk_Signed l (q + 2) 2 5 (by omega) (by omega) (by omega) hl) ?_
      (conv => whnf)
      refine call_i (mk_Next l (q + 3) 4 (by omega) (by omega) hl) ?_
      (conv => whnf)
      refine ⟨by omega, ?_⟩
      (conv => whnf)
      rw [w64 (x := (nxt l q 19 - 9) * 32768) (by omega) (by omega), w64 (x := (nxt l (q + 1) 19 - 9) * 32768) (by omega) (by omega), w64 (x := (nxt l (q + 2) 5 - 2) * 32768) (by omega) (by omega), w_rad s3.1 s3.2]
      refine call_i (mk_points l (q + 4) ⟨(nxt l q 19 - 9) * 32768, (nxt l (q + 1) 19 - 9) * 32768, (nxt l (q + 2) 5 - 2) * 32768⟩ hl (near_mk (by omega) (by omega) (by omega))) ?_
      (conv => whnf)
      refine ⟨⟨by simp; omega, by simp; omega⟩, ?_⟩
      (conv => whnf)
      refine ⟨k + 1, [(3, 6)], hlt, by omega, ⟨⟨rfl, rfl, rfl, eqI ?_, trivial⟩, ⟨rfl, ?_, rfl, ?_, trivial⟩⟩⟩
      · rw [w64] <;> omega
      · rw [hpos]; rfl
      · show Box.rows Y.Shape 3 _ = Box.rows Y.Shape 3 _
        refine congrArg _ ?_
        rw [hsucc, show ls ++ (shWs l (q1 + 1) k ++ [shW l q]) = (ls ++ shWs l (q1 + 1) k) ++ [shW l q] by rw [List.append_assoc], List.map_append (l₁ := ls ++ shWs l (q1 + 1) k)]; rfl
    · have hk : k = c := by have := of_decide_eq_false h; omega
      subst hk
      generalize wPos l (q1 + 1) k = q at *
      (conv => whnf)
      refine call_i (mk_Next l q 5 (by omega) (by omega) hl) ?_
      (conv => whnf)
      refine ask_m (fun h => ?_) (fun h => ?_)
      · have h : nxt l q 5 = 1 := by simpa using h
        rw [mkSkips, if_pos h]
        (conv => whnf)
        rw [List.length_map]
        refine call_i (mk_Next l (q + 1) r.joints.length (by omega) (by omega) hl) ?_
        (conv => whnf)
        refine ⟨⟨by simp, by simp⟩, ?_⟩
        (conv => whnf)
        refine retO [.frz 3, .frz 5] ?_
        (conv => whnf)
        exact ⟨[], ⟨rfl, trivial⟩, trivial⟩
      · have h : ¬ nxt l q 5 = 1 := by simpa using h
        rw [mkSkips, if_neg h]
        (conv => whnf)
        refine retO [.frz 3, .ownC 0 3 Y.Skip 2, .frz 4] ?_
        (conv => whnf)
        exact ⟨[], ⟨rfl, trivial⟩, trivial⟩
end Go.Proofs.Ytgnblfojpcjgmaa
