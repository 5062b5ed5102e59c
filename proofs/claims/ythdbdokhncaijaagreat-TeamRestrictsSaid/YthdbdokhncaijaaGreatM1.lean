import Derived.Test.YthdbdokhncaijaaGreatNm
import Derived.Test.YthdbdokhncaijaaGreatEngG
import Derived.Laws.RangeAny
/- Common ground for a seat's walks: integers, lists, texts. -/
namespace Go.Proofs.YthdbdokhncaijaaGreat
open Eng
set_option maxRecDepth 10000
attribute [local irreducible] FnOk loopW idxF retX arrF

theorem w64 {x : Int} (h1 : -9223372036854775808 ≤ x) (h2 : x ≤ 9223372036854775807) : IntKind.i64.wrap x = x := by
  rw [IntKind.wrap_i64]; omega
abbrev I (n : Int) : SV := .one (.dv (.int .i64 n))
abbrev Bo (b : Bool) : SV := .one (.dv (.bool b))
abbrev Tx (s : ByteArray) : SV := .one (.dv (.str s))
theorem eqI {a b : Int} (h : a = b) : I a = I b := by rw [h]
theorem eqB {a b : Bool} (h : a = b) : Bo a = Bo b := by rw [h]
def encI (n : Int) : List DV := [.int .i64 n]
abbrev Li (xs : List Int) : SV := .one (.dv (.lst 1 (xs.map encI)))
theorem all_take {α : Type} {f : α → Bool} {xs : List α} {k : Nat} {x : α} (h : (xs.take k).all f = true) (hx : xs[k]? = some x) (hf : f x = true) : (xs.take (k + 1)).all f = true := by
  rw [List.take_add_one, hx]; simp [h, hf]
theorem all_not {α : Type} {f : α → Bool} {xs : List α} {k : Nat} {x : α} (hx : xs[k]? = some x) (hf : f x = false) : xs.all f = false := by
  rw [List.all_eq_false]; exact ⟨x, List.mem_of_getElem? hx, by simp [hf]⟩
theorem any_take {α : Type} {f : α → Bool} {xs : List α} {k : Nat} {x : α} (h : (xs.take k).any f = false) (hx : xs[k]? = some x) (hf : f x = false) : (xs.take (k + 1)).any f = false := by
  rw [List.take_add_one, hx]; simp [h, hf]
theorem any_yes {α : Type} {f : α → Bool} {xs : List α} {k : Nat} {x : α} (hx : xs[k]? = some x) (hf : f x = true) : xs.any f = true := by
  rw [List.any_eq_true]; exact ⟨x, List.mem_of_getElem? hx, hf⟩
theorem drop_cons {α : Type} {l : List α} {k : Nat} {x : α} (h : l[k]? = some x) : l.drop k = x :: l.drop (k + 1) := by
  obtain ⟨h1, h2⟩ := List.getElem?_eq_some_iff.1 h
  rw [List.drop_eq_getElem_cons h1, h2]
theorem take_same {α : Type} {xs ys : List α} {k : Nat} {x : α} (h : xs.take k = ys.take k) (hx : xs[k]? = some x) (hy : ys[k]? = some x) : xs.take (k + 1) = ys.take (k + 1) := by
  rw [List.take_add_one, List.take_add_one, hx, hy, h]
theorem ne_at {α : Type} {xs ys : List α} {k : Nat} {x y : α} (hx : xs[k]? = some x) (hy : ys[k]? = some y) (h : x ≠ y) : xs ≠ ys := by
  rintro rfl; rw [hx] at hy; injection hy; contradiction
theorem range_enc {α : Type} {f : Nat → α} {enc : α → List DV} {k : Nat} : ((List.range (k + 1)).map f).map enc = ((List.range k).map f).map enc ++ [enc (f k)] := by
  simp [List.range_succ]
theorem map_of {α : Type} {enc : α → List DV} : ∀ {rs : List (List DV)}, (∀ r ∈ rs, ∃ a, r = enc a) → ∃ xs : List α, rs = xs.map enc
  | [], _ => ⟨[], rfl⟩
  | r :: rs, h => by
    obtain ⟨a, ha⟩ := h r (by simp)
    obtain ⟨xs, hx⟩ := map_of (rs := rs) fun r hr => h r (by simp [hr])
    exact ⟨a :: xs, by rw [ha, hx]; rfl⟩
theorem all2_cons {α β : Type} {R : α → β → Prop} {a : α} {l : List α} {r : List β} (h : All2 R (a :: l) r) : ∃ b r', r = b :: r' ∧ R a b ∧ All2 R l r' := by
  cases r with
  | nil => exact h.elim
  | cons b r => exact ⟨b, r, rfl, h.1, h.2⟩
theorem all2_nil {α β : Type} {R : α → β → Prop} {r : List β} (h : All2 R [] r) : r = [] := by
  cases r with
  | nil => rfl
  | cons b r => exact h.elim
theorem own : ownKnob Tryz.prog.godebug = none := by kernel_rfl
theorem laid : laidOutB Tryz.prog = true := by kernel_rfl
theorem flatI (t : Nat) (xs : List Int) : FlatB (.rows t 1 (xs.map encI)) := by
  intro r hr d hd
  obtain ⟨x, _, rfl⟩ := List.mem_map.1 hr
  simp [encI] at hd; subst hd; trivial

/- numbers -/
theorem tmod_pos {x m : Int} (hm : 0 < m) : (x.tmod m < 0 → x.tmod m + m = x % m) ∧ (0 ≤ x.tmod m → x.tmod m = x % m) ∧ -m < x.tmod m ∧ x.tmod m < m := by
  have h1 := Int.tmod_eq_emod (a := x) (b := m)
  have h2 := Int.emod_nonneg x (b := m) (by omega)
  have h3 := Int.emod_lt_of_pos x hm
  have : (m.natAbs : Int) = m := by omega
  split at h1 <;> omega
end Go.Proofs.YthdbdokhncaijaaGreat

/- Robots and scenes as data, and what the chapters 8 and 9 ask of them, in plain Lean. -/
namespace Go.Proofs.YthdbdokhncaijaaGreat
open Eng
set_option maxRecDepth 10000

structure Vec where
  x : Int
  y : Int
  z : Int
deriving DecidableEq
structure Joint where
  name : ByteArray
  kind : Int
  parent : Int
  off : Vec
  lo : Int
  hi : Int
  weight : Int
  speed : Int
  accel : Int
  torque : Int
structure Mass where
  link : Int
  mass : Int
  point : Vec
structure Shape where
  link : Int
  radius : Int
  points : List Vec
structure Skip where
  a : Int
  b : Int
deriving DecidableEq
structure Robot where
  joints : List Joint
  masses : List Mass
structure Scene where
  robot : Robot
  shapes : List Shape
  skips : List Skip
structure Pair where
  a : Int
  b : Int
deriving DecidableEq
def encV (v : Vec) : List DV := [.int .i64 v.x, .int .i64 v.y, .int .i64 v.z]
def encJ (j : Joint) : List DV := [.str j.name, .int .i64 j.kind, .int .i64 j.parent, .int .i64 j.off.x, .int .i64 j.off.y, .int .i64 j.off.z, .int .i64 j.lo, .int .i64 j.hi, .int .i64 j.weight, .int .i64 j.speed, .int .i64 j.accel, .int .i64 j.torque]
def encM (m : Mass) : List DV := [.int .i64 m.link, .int .i64 m.mass, .int .i64 m.point.x, .int .i64 m.point.y, .int .i64 m.point.z]
def encSh (s : Shape) : List DV := [.int .i64 s.link, .int .i64 s.radius, .lst 3 (s.points.map encV)]
def encSk (s : Skip) : List DV := [.int .i64 s.a, .int .i64 s.b]
def encPa (s : Pair) : List DV := [.int .i64 s.a, .int .i64 s.b]
abbrev dJs (js : List Joint) : DV := .lst 12 (js.map encJ)
abbrev dMs (ms : List Mass) : DV := .lst 5 (ms.map encM)
abbrev dShs (ss : List Shape) : DV := .lst 3 (ss.map encSh)
abbrev dSks (ss : List Skip) : DV := .lst 2 (ss.map encSk)
abbrev Ro (r : Robot) : SV := .agg [.dv (dJs r.joints), .dv (dMs r.masses)]
abbrev Sc (s : Scene) : SV := .agg [.dv (dJs s.robot.joints), .dv (dMs s.robot.masses), .dv (dShs s.shapes), .dv (dSks s.skips)]
abbrev Ve (v : Vec) : SV := .agg [.dv (.int .i64 v.x), .dv (.int .i64 v.y), .dv (.int .i64 v.z)]

abbrev Ma (m : Mass) : SV := .agg [.dv (.int .i64 m.link), .dv (.int .i64 m.mass), .dv (.int .i64 m.point.x), .dv (.int .i64 m.point.y), .dv (.int .i64 m.point.z)]
abbrev Sh (s : Shape) : SV := .agg [.dv (.int .i64 s.link), .dv (.int .i64 s.radius), .dv (.lst 3 (s.points.map encV))]
abbrev dVs (l : List Vec) : DV := .lst 3 (l.map encV)
def small (s : Scene) : Prop := s.robot.joints.length ≤ 4611686018427387904 ∧ s.robot.masses.length ≤ 4611686018427387904 ∧ s.shapes.length ≤ 4611686018427387904 ∧ s.skips.length ≤ 4611686018427387904 ∧ ∀ x ∈ s.shapes, x.points.length ≤ 4611686018427387904

/- names -/
def letterB (c : Int) : Bool := decide (97 ≤ c) && decide (c ≤ 122)
def digitB (c : Int) : Bool := decide (48 ≤ c) && decide (c ≤ 57)
def nameB (i : Nat) (c : Int) : Bool := letterB c || (decide (i ≠ 0) && (digitB c || decide (c = 95)))
def worldT : ByteArray := ⟨#[119, 111, 114, 108, 100]⟩
def nameOk (s : ByteArray) : Bool := decide (1 ≤ s.size) && decide (s.size ≤ 16) && !decide (s = worldT) && (List.range s.size).all fun i => nameB i (byteAt s i)

/- joints -/
def find : List Joint → ByteArray → Nat → Int
  | [], _, _ => -1
  | j :: js, n, k => if j.name = n then k else find js n (k + 1)
def inV (v : Vec) (m : Int) : Bool := (decide (-m ≤ v.x) && decide (v.x ≤ m)) && (decide (-m ≤ v.y) && decide (v.y ≤ m)) && (decide (-m ≤ v.z) && decide (v.z ≤ m))
def reach (k : Int) : Int := if k = 1 ∨ k = 2 ∨ k = 3 then 524288 else if k = 4 ∨ k = 5 ∨ k = 6 then 4194304 else 0
def from1 (x m : Int) : Bool := decide (1 ≤ x) && decide (x ≤ m)
def jointErr (js : List Joint) (i : Nat) (j : Joint) : Int :=
  if nameOk j.name = false ∨ find js j.name 0 ≠ i then 802
  else if j.kind < 0 ∨ 6 < j.kind then 803
  else if j.parent < -1 ∨ (i : Int) ≤ j.parent then 804
  else if inV j.off 4194304 = false then 805
  else if j.hi < j.lo ∨ j.lo < - reach j.kind ∨ reach j.kind < j.hi then 806
  else if (from1 j.weight 1024 && from1 j.speed 1048576 && from1 j.accel 1048576 && from1 j.torque 1099511627776) = false then 807
  else 0
def jointsErr (js : List Joint) : Nat → List Joint → Int
  | _, [] => 0
  | i, j :: rest => if jointErr js i j = 0 then jointsErr js (i + 1) rest else jointErr js i j
def massOk (n : Nat) (m : Mass) : Bool := decide (0 ≤ m.link) && decide (m.link < n) && from1 m.mass 65536 && inV m.point 4194304
def checkRobot (r : Robot) : Int :=
  if r.joints.length = 0 ∨ 10 < r.joints.length then 801
  else if jointsErr r.joints 0 r.joints ≠ 0 then jointsErr r.joints 0 r.joints
  else if 32 < r.masses.length ∨ r.masses.all (massOk r.joints.length) = false then 808
  else 0
def linkOk (n : Nat) (k : Int) : Bool := decide (-1 ≤ k) && decide (k < n)
def shapeErr (n : Nat) (s : Shape) : Int :=
  if linkOk n s.link = false ∨ s.radius < 1 ∨ 1048576 < s.radius ∨ s.points.length < 1 ∨ 8 < s.points.length then 902
  else if s.points.all (inV · 4194304) = false then 805
  else 0
def shapesErr (n : Nat) : List Shape → Int
  | [] => 0
  | s :: rest => if shapeErr n s = 0 then shapesErr n rest else shapeErr n s
def skipOk (n : Nat) (k : Skip) : Bool := linkOk n k.a && linkOk n k.b
def checkScene (s : Scene) : Int :=
  if checkRobot s.robot ≠ 0 then checkRobot s.robot
  else if 24 < s.shapes.length then 901
  else if shapesErr s.robot.joints.length s.shapes ≠ 0 then shapesErr s.robot.joints.length s.shapes
  else if 64 < s.skips.length then 903
  else if (s.skips.all fun k => linkOk s.robot.joints.length k.a && linkOk s.robot.joints.length k.b) = false then 903
  else 0
end Go.Proofs.YthdbdokhncaijaaGreat

/- Bytes and runes of texts. -/
namespace Go.Proofs.YthdbdokhncaijaaGreat
open Eng
set_option maxRecDepth 10000
attribute [local irreducible] FnOk loopW idxF retX arrF

abbrev Ru (c : Int) : SV := .one (.dv (.int .i32 c))
abbrev By (c : Int) : SV := .one (.dv (.int .u8 c))
theorem byteAt_get {s : ByteArray} {i : Nat} (h : i < s.size) : byteAt s i = ((s[i]'h).toNat : Int) := by
  unfold byteAt; rw [getElem?_pos s i h]; rfl
theorem byteAt_bd (s : ByteArray) (i : Nat) : 0 ≤ byteAt s i ∧ byteAt s i < 256 := by
  unfold byteAt
  have := (s[i]?.getD 0).toNat_lt
  omega
end Go.Proofs.YthdbdokhncaijaaGreat

/- Names. No program in sight. -/
namespace Go.Proofs.YthdbdokhncaijaaGreat
open Eng
set_option maxRecDepth 10000

theorem nameB_low {i : Nat} {c : Int} (h : nameB i c = true) : c < 128 := by
  simp only [nameB, letterB, digitB, Bool.or_eq_true, Bool.and_eq_true, decide_eq_true_eq] at h
  omega
theorem dec_name {s : ByteArray} {i : Nat} (h : i < s.size) : nameB i (Utf8.decode s i).1 = nameB i (byteAt s i) ∧ (nameB i (byteAt s i) = true → (Utf8.decode s i).2 = 1) := by
  have hb := byteAt_get h
  by_cases ha : (s[i]'h).toNat < 128
  · rw [decode_ascii s i h ha, hb]; exact ⟨rfl, fun _ => rfl⟩
  · have := (decode_high s i h (by omega)).1
    have h1 : nameB i (byteAt s i) = false := by
      rcases hn : nameB i (byteAt s i) with _ | _
      · rfl
      · have := nameB_low hn; omega
    have h2 : nameB i ((Utf8.decode s i).1 : Int) = false := by
      rcases hn : nameB i ((Utf8.decode s i).1 : Int) with _ | _
      · rfl
      · have := nameB_low hn; omega
    rw [h1, h2]; exact ⟨rfl, fun h => by cases h⟩
theorem names_take {s : ByteArray} {k : Nat} (h : ((List.range k).all fun i => nameB i (byteAt s i)) = true) (hk : nameB k (byteAt s k) = true) : ((List.range (k + 1)).all fun i => nameB i (byteAt s i)) = true := by
  rw [List.range_succ, List.all_append, h]; simp [hk]
theorem name_not {s : ByteArray} {k : Nat} (hk : k < s.size) (h : nameB k (byteAt s k) = false) : nameOk s = false := by
  have : ((List.range s.size).all fun i => nameB i (byteAt s i)) = false := by
    rw [List.all_eq_false]; exact ⟨k, by simpa using hk, by simp [h]⟩
  simp [nameOk, this]
end Go.Proofs.YthdbdokhncaijaaGreat

/- Names and small numbers: what the code of the chapters 6, 8 and 9 asks of them. -/
namespace Go.Proofs.YthdbdokhncaijaaGreat
open Eng
set_option maxRecDepth 10000
attribute [local irreducible] FnOk loopW idxF retX arrF

theorem token_isLetter (c : Int) : FnOk Tryz.prog F.token_isLetter [Ru c] [] 0 (Bo (letterB c)) [] 0 := by
  refine fnOk tab mix G.token_isLetter rfl rfl (by kernel_rfl) rfl rfl ?_
  repeat' ((conv => whnf); first | refine ask_m (fun h => ?_) (fun h => ?_) | refine ret0 ?_)
  all_goals exact ret_b (by first | (simp_all [letterB]; done) | (simp_all [letterB]; omega)) rfl
theorem token_isDigit (c : Int) : FnOk Tryz.prog F.token_isDigit [Ru c] [] 0 (Bo (digitB c)) [] 0 := by
  refine fnOk tab mix G.token_isDigit rfl rfl (by kernel_rfl) rfl rfl ?_
  repeat' ((conv => whnf); first | refine ask_m (fun h => ?_) (fun h => ?_) | refine ret0 ?_)
  all_goals exact ret_b (by first | (simp_all [digitB]; done) | (simp_all [digitB]; omega)) rfl
theorem token_Name (s : ByteArray) : FnOk Tryz.prog F.token_Name [Tx s] [] 0 (Bo (nameOk s)) [] 0 := by
  refine fnOk tab mix G.token_Name rfl rfl (by kernel_rfl) rfl rfl ?_
  (conv => whnf)
  refine ask_m (fun h => ?_) (fun h => ?_)
  · (conv => whnf)
    refine ret0 ?_
    exact ret_b (by have : s.size = 0 := by simpa using h
                    simp [nameOk, this]) rfl
  have h1 : 1 ≤ s.size := by have : ¬ (s.size : Int) = 0 := by simpa using h
                             omega
  (conv => whnf)
  refine ask_m (fun h => ?_) (fun h => ?_)
  · (conv => whnf)
    refine ret0 ?_
    exact ret_b (by have : ¬ s.size ≤ 16 := by have := of_decide_eq_true h; omega
                    simp [nameOk, this]) rfl
  have h2 : s.size ≤ 16 := by have := of_decide_eq_false h; omega
  (conv => whnf)
  refine ask_m (fun h => ?_) (fun h => ?_)
  · (conv => whnf)
    refine ret0 ?_
    exact ret_b (by have : s = worldT := of_decide_eq_true h
                    subst this; rfl) rfl
  have h3 : decide (s = worldT) = false := h
  (conv => whnf)
  refine loop_intro (fun k : Nat => ⟨[(18, .one (.vptr 0 0))], [(0, .iter s k)], 1⟩) (fun k => k ≤ s.size ∧ ((List.range k).all fun i => nameB i (byteAt s i)) = true) (fun k => s.size - k) [] 0 [] ⟨Nat.zero_le _, rfl⟩ ⟨⟨rfl, trivial⟩, ⟨rfl, trivial⟩⟩ ?_
  rintro k ⟨hk, hall⟩
  (conv => whnf)
  refine ask_m (fun h => ?_) (fun h => ?_)
  · have hlt : k < s.size := of_decide_eq_true h
    obtain ⟨d1, d2⟩ := dec_name hlt
    have bad : nameB k ((Utf8.decode s k).1 : Int) = false → nameOk s = false := fun h => name_not hlt (by rw [← d1]; exact h)
    have good : nameB k ((Utf8.decode s k).1 : Int) = true → (Utf8.decode s k).2 = 1 ∧ ((List.range (k + 1)).all fun i => nameB i (byteAt s i)) = true := fun h => by
      rw [d1] at h
      exact ⟨d2 h, names_take hall h⟩
    generalize ((Utf8.decode s k).1 : Nat) = c at *
    generalize (Utf8.decode s k).2 = w at *
    (conv => whnf)
    refine call_i (token_isLetter c) ?_
    (conv => whnf)
    refine ask_m (fun hl => ?_) (fun hl => ?_)
    · have hl : letterB c = false := by simpa using hl
      (conv => whnf)
      refine ask_m (fun h0 => ?_) (fun h0 => ?_)
      · have h0 : k = 0 := by simpa using h0
        (conv => whnf)
        refine ret0 ?_
        exact ret_b (bad (by simp [nameB, hl, h0])).symm rfl
      have h0 : k ≠ 0 := by simpa using h0
      (conv => whnf)
      refine call_i (token_isDigit c) ?_
      (conv => whnf)
      refine ask_m (fun hd => ?_) (fun hd => ?_)
      · have hd : digitB c = false := by simpa using hd
        (conv => whnf)
        refine ask_m (fun hu => ?_) (fun hu => ?_)
        · have hu : ¬ (c : Int) = 95 := by simpa using hu
          (conv => whnf)
          refine ret0 ?_
          exact ret_b (bad (by simp [nameB, hl, hd, hu])).symm rfl
        · have hu : (c : Int) = 95 := by simpa using hu
          obtain ⟨rfl, g⟩ := good (by simp [nameB, h0, hu])
          (conv => whnf)
          exact ⟨k + 1, [], ⟨hlt, g⟩, by omega, ⟨⟨rfl, trivial⟩, ⟨rfl, trivial⟩⟩⟩
      · have hd : digitB c = true := by simpa using hd
        obtain ⟨rfl, g⟩ := good (by simp [nameB, h0, hd])
        (conv => whnf)
        exact ⟨k + 1, [], ⟨hlt, g⟩, by omega, ⟨⟨rfl, trivial⟩, ⟨rfl, trivial⟩⟩⟩
    · have hl : letterB c = true := by simpa using hl
      obtain ⟨rfl, g⟩ := good (by simp [nameB, hl])
      (conv => whnf)
      exact ⟨k + 1, [], ⟨hlt, g⟩, by omega, ⟨⟨rfl, trivial⟩, ⟨rfl, trivial⟩⟩⟩
  · have hk : k = s.size := by have := of_decide_eq_false h; omega
    subst hk
    (conv => whnf)
    refine ret0 ?_
    exact ret_b (by simp [nameOk, h1, h2, h3, hall]) rfl
end Go.Proofs.YthdbdokhncaijaaGreat

/- Variables that hold robots and scenes. -/
namespace Go.Proofs.YthdbdokhncaijaaGreat
open Eng
abbrev bRo (r : Robot) : Box := .vars Y.Robot [.dv (dJs r.joints), .dv (dMs r.masses)]
abbrev bSc (s : Scene) : Box := .vars Y.Scene [.dv (dJs s.robot.joints), .dv (dMs s.robot.masses), .dv (dShs s.shapes), .dv (dSks s.skips)]
end Go.Proofs.YthdbdokhncaijaaGreat

/- Robots: the parts of their check. -/
namespace Go.Proofs.YthdbdokhncaijaaGreat
open Eng
set_option maxRecDepth 10000
attribute [local irreducible] FnOk loopW idxF retX arrF

theorem robot_Find (r : Robot) (nm : ByteArray) (hl : r.joints.length ≤ 4611686018427387904) : FnOk Tryz.prog F.robot_Find [Ro r, Tx nm] [] 0 (I (find r.joints nm 0)) [] 0 := by
  refine fnOk tab mix G.robot_Find rfl rfl (by kernel_rfl) rfl rfl ?_
  (conv => whnf)
  refine loop_intro (fun k : Nat => ⟨[(1, Tx nm), (2, .one (.vptr 0 0)), (8, I r.joints.length), (9, I k)], [(0, bRo r)], 1⟩) (fun k => k ≤ r.joints.length ∧ find (r.joints.drop k) nm k = find r.joints nm 0) (fun k => r.joints.length - k) [] 0 [] ⟨Nat.zero_le _, rfl⟩ ⟨⟨rfl, rfl, eqI (by simp), rfl, trivial⟩, ⟨rfl, trivial⟩⟩ ?_
  rintro k ⟨hk, hf⟩
  (conv => whnf)
  refine ask_m (fun h => ?_) (fun h => ?_)
  · have hlt : k < r.joints.length := by simpa using h
    obtain ⟨j, hj⟩ : ∃ j, r.joints[k]? = some j := ⟨_, List.getElem?_eq_getElem hlt⟩
    have hkk : IntKind.i64.wrap ((k : Int) + 1) = ((k + 1 : Nat) : Int) := by rw [w64] <;> omega
    rw [drop_cons hj, find] at hf
    (conv => whnf)
    refine idx_and (by omega) (by simpa using hj) ?_
    (conv => whnf)
    refine ask_m (fun h => ?_) (fun h => ?_)
    · have h : j.name = nm := of_decide_eq_true h
      rw [if_pos h] at hf
      (conv => whnf)
      refine ret0 ?_
      exact ret_i hf rfl
    · have h : ¬ j.name = nm := of_decide_eq_false h
      rw [if_neg h] at hf
      (conv => whnf)
      exact ⟨k + 1, [], ⟨hlt, hf⟩, by omega, ⟨⟨rfl, rfl, rfl, eqI hkk, trivial⟩, ⟨rfl, trivial⟩⟩⟩
  · have hk : k = r.joints.length := by simp at h; omega
    subst hk
    rw [List.drop_length, find] at hf
    (conv => whnf)
    refine ret0 ?_
    exact ret_i hf rfl
theorem robot_from1 (x m : Int) : FnOk Tryz.prog F.robot_from1 [I x, I m] [] 0 (Bo (from1 x m)) [] 0 := by
  refine fnOk tab mix G.robot_from1 rfl rfl (by kernel_rfl) rfl rfl ?_
  repeat' ((conv => whnf); first | refine ask_m (fun h => ?_) (fun h => ?_) | refine ret0 ?_)
  all_goals exact ret_b (by first | (simp_all [from1]; done) | (simp_all [from1]; omega)) rfl
theorem robot_limit (k : Int) : FnOk Tryz.prog F.robot_limit [I k] [] 0 (I (reach k)) [] 0 := by
  refine fnOk tab mix G.robot_limit rfl rfl (by kernel_rfl) rfl rfl ?_
  repeat' ((conv => whnf); first | refine ask_m (fun h => ?_) (fun h => ?_) | refine ret0 ?_)
  all_goals exact ret_i (by simp_all [reach]) rfl
def inC (x : Int) : Bool := decide (-4194304 ≤ x) && decide (x ≤ 4194304)
def vAt (v : Vec) : Nat → Int
  | 0 => v.x
  | 1 => v.y
  | _ => v.z
theorem inV_at {v : Vec} {k : Nat} (hk : k < 3) (h : inC (vAt v k) = false) : inV v 4194304 = false := by
  obtain rfl | rfl | rfl : k = 0 ∨ k = 1 ∨ k = 2 := by omega
  all_goals (simp only [vAt, inC] at h; unfold inV; rw [h]; simp)
theorem inV_all {v : Vec} (h : ∀ k, k < 3 → inC (vAt v k) = true) : inV v 4194304 = true := by
  have h0 := h 0 (by omega)
  have h1 := h 1 (by omega)
  have h2 := h 2 (by omega)
  simp only [vAt, inC] at h0 h1 h2
  unfold inV; rw [h0, h1, h2]; rfl
theorem arr_vec {te : TI} {v : Vec} {k : Nat} {K : SV → Prop} (ha : te.kind.agg = false) (hs : te.size = 1) (hk : k < 3) (h : K (I (vAt v k))) : arrF te [.dv (.int .i64 v.x), .dv (.int .i64 v.y), .dv (.int .i64 v.z)] k K := by
  obtain rfl | rfl | rfl : k = 0 ∨ k = 1 ∨ k = 2 := by omega
  · exact arr_at ha hs (c := .dv (.int .i64 v.x)) rfl h
  · exact arr_at ha hs (c := .dv (.int .i64 v.y)) rfl h
  · exact arr_at ha hs (c := .dv (.int .i64 v.z)) rfl h
theorem robot_beyond (v : Vec) : FnOk Tryz.prog F.robot_beyond [Ve v] [] 0 (Bo (!inV v 4194304)) [] 0 := by
  refine fnOk tab mix G.robot_beyond rfl rfl (by kernel_rfl) rfl rfl ?_
  (conv => whnf)
  refine loop_intro (fun k : Nat => ⟨[(5, Ve v), (6, I k)], [], 0⟩) (fun k => k ≤ 3 ∧ ∀ i, i < k → inC (vAt v i) = true) (fun k => 3 - k) [] 0 [] ⟨Nat.zero_le _, fun i hi => by omega⟩ ⟨⟨rfl, rfl, trivial⟩, trivial⟩ ?_
  rintro k ⟨hk, hall⟩
  (conv => whnf)
  refine ask_m (fun h => ?_) (fun h => ?_)
  · have hlt : k < 3 := by have := of_decide_eq_true h; omega
    have hkk : IntKind.i64.wrap ((k : Int) + 1) = ((k + 1 : Nat) : Int) := by rw [w64] <;> omega
    (conv => whnf)
    refine ⟨⟨by omega, by omega⟩, ?_⟩
    (conv => whnf)
    rw [Int.toNat_natCast]
    refine arr_vec rfl rfl hlt ?_
    have bad : inC (vAt v k) = false → (!inV v 4194304) = true := fun h => by rw [inV_at hlt h]; rfl
    generalize hx : vAt v k = x at *
    (conv => whnf)
    refine ask_m (fun h => ?_) (fun h => ?_)
    · have h := of_decide_eq_true h
      (conv => whnf)
      refine ret0 ?_
      exact ret_b (bad (by simp only [inC, Bool.and_eq_false_iff, decide_eq_false_iff_not]; omega)).symm rfl
    · have h := of_decide_eq_false h
      (conv => whnf)
      refine ask_m (fun h => ?_) (fun h => ?_)
      · have h := of_decide_eq_true h
        (conv => whnf)
        refine ret0 ?_
        exact ret_b (bad (by simp only [inC, Bool.and_eq_false_iff, decide_eq_false_iff_not]; omega)).symm rfl
      · have h2 := of_decide_eq_false h
        (conv => whnf)
        refine ⟨k + 1, [], ⟨hlt, fun i hi => ?_⟩, by omega, ⟨⟨rfl, eqI hkk, trivial⟩, trivial⟩⟩
        by_cases e : i = k
        · subst e; rw [hx]; simp only [inC, Bool.and_eq_true, decide_eq_true_eq]; omega
        · exact hall i (by omega)
  · have hk : k = 3 := by have := of_decide_eq_false h; omega
    subst hk
    (conv => whnf)
    refine ret0 ?_
    exact ret_b (by rw [inV_all hall]; rfl) rfl
end Go.Proofs.YthdbdokhncaijaaGreat

/- The reference's Name. -/
namespace Go.Proofs.YthdbdokhncaijaaGreat
open Eng
set_option maxRecDepth 10000
attribute [local irreducible] FnOk loopW idxF retX arrF

theorem ref_Name (s : ByteArray) : FnOk Tryz.prog F.ref6_Name [Tx s] [] 0 (Bo (nameOk s)) [] 0 := by
  refine fnOk tab mix G.ref6_Name rfl rfl (by kernel_rfl) rfl rfl ?_
  (conv => whnf)
  refine ask_m (fun h => ?_) (fun h => ?_)
  · (conv => whnf)
    refine ret0 ?_
    exact ret_b (by have : ¬ 1 ≤ s.size := by have := of_decide_eq_true h; omega
                    simp [nameOk, this]) rfl
  have h1 : 1 ≤ s.size := by have := of_decide_eq_false h; omega
  (conv => whnf)
  refine ask_m (fun h => ?_) (fun h => ?_)
  · (conv => whnf)
    refine ret0 ?_
    exact ret_b (by have : ¬ s.size ≤ 16 := by have := of_decide_eq_true h; omega
                    simp [nameOk, this]) rfl
  have h2 : s.size ≤ 16 := by have := of_decide_eq_false h; omega
  (conv => whnf)
  refine ask_m (fun h => ?_) (fun h => ?_)
  · (conv => whnf)
    refine ret0 ?_
    exact ret_b (by have : s = worldT := of_decide_eq_true h
                    subst this; rfl) rfl
  have h3 : decide (s = worldT) = false := h
  (conv => whnf)
  refine loop_intro (fun k : Nat => ⟨[(0, Tx s), (3, I k)], [], 0⟩) (fun k => k ≤ s.size ∧ ((List.range k).all fun i => nameB i (byteAt s i)) = true) (fun k => s.size - k) [] 0 [] ⟨Nat.zero_le _, rfl⟩ ⟨⟨rfl, rfl, trivial⟩, trivial⟩ ?_
  rintro k ⟨hk, hall⟩
  have hkk : IntKind.i64.wrap ((k : Int) + 1) = ((k + 1 : Nat) : Int) := by rw [w64] <;> omega
  (conv => whnf)
  refine ask_m (fun h => ?_) (fun h => ?_)
  · have hlt : k < s.size := by have := of_decide_eq_true h; omega
    have bad : nameB k (byteAt s k) = false → nameOk s = false := name_not hlt
    have good : nameB k (byteAt s k) = true → ((List.range (k + 1)).all fun i => nameB i (byteAt s i)) = true := fun h => names_take hall h
    have hN : nameB k (byteAt s k) = (letterB (byteAt s k) || (decide (k ≠ 0) && (digitB (byteAt s k) || decide (byteAt s k = 95)))) := rfl
    have ix : ((0 : Int) ≤ k ∧ (k : Int) < s.size) := ⟨by omega, by omega⟩
    have e1 : byteAt s (k : Int).toNat = byteAt s k := rfl
    clear h
    repeat' ((conv => whnf); first | refine ask_m (fun h => ?_) (fun h => ?_) | refine ⟨ix, ?_⟩ | refine ret0 ?_)
    all_goals (try rw [e1] at *)
    all_goals generalize byteAt s k = c at *
    all_goals first
      | (refine ret_b (bad ?_).symm rfl; clear bad good; simp_all [letterB, digitB]; done)
      | (refine ret_b (bad ?_).symm rfl; clear bad good; simp_all [letterB, digitB]; omega)
      | (refine ⟨k + 1, [], ⟨hlt, good ?_⟩, by omega, ⟨⟨rfl, eqI hkk, trivial⟩, trivial⟩⟩; clear bad good; simp_all [letterB, digitB]; done)
      | (refine ⟨k + 1, [], ⟨hlt, good ?_⟩, by omega, ⟨⟨rfl, eqI hkk, trivial⟩, trivial⟩⟩; clear bad good; simp_all [letterB, digitB]; omega)
  · have hk : k = s.size := by have := of_decide_eq_false h; omega
    subst hk
    (conv => whnf)
    refine ret0 ?_
    exact ret_b (by simp [nameOk, h1, h2, h3, hall]) rfl
end Go.Proofs.YthdbdokhncaijaaGreat

/- Finding joints. No program in sight. -/
namespace Go.Proofs.YthdbdokhncaijaaGreat
open Eng
set_option maxRecDepth 10000

theorem find_at : ∀ {js : List Joint} {i k : Nat} {j : Joint}, js[i]? = some j → (∀ (i' : Nat) (j' : Joint), i' < i → js[i']? = some j' → j'.name ≠ j.name) → find js j.name k = ((k + i : Nat) : Int)
  | [], _, _, _, h, _ => by simp at h
  | x :: js, 0, k, j, h, _ => by
    simp at h; subst h
    rw [find, if_pos rfl]; rfl
  | x :: js, i + 1, k, j, h, hn => by
    have h1 := hn 0 x (by omega) rfl
    rw [find, if_neg h1, find_at (i := i) (k := k + 1) (by simpa using h) fun i' j' hi hj => hn (i' + 1) j' (by omega) (by simpa using hj)]
    omega
theorem jointsErr_zero {js : List Joint} : ∀ {l : List Joint} {i : Nat}, (∀ (k : Nat) (j : Joint), l[k]? = some j → jointErr js (i + k) j = 0) → jointsErr js i l = 0
  | [], _, _ => rfl
  | x :: l, i, h => by
    have h0 : jointErr js i x = 0 := h 0 x rfl
    rw [jointsErr, if_pos h0]
    exact jointsErr_zero fun k j hj => by
      have := h (k + 1) j (by simpa using hj)
      rw [← this]; congr 1; omega
theorem reach_cases (k : Int) : reach k = 0 ∨ reach k = 524288 ∨ reach k = 4194304 := by
  unfold reach; repeat' split
  all_goals simp
def bodyOk (i : Nat) (j : Joint) : Prop := (0 ≤ j.kind ∧ j.kind ≤ 6) ∧ (-1 ≤ j.parent ∧ j.parent < (i : Int)) ∧ inV j.off 4194304 = true ∧ (j.lo ≤ j.hi ∧ - reach j.kind ≤ j.lo ∧ j.hi ≤ reach j.kind) ∧ (from1 j.weight 1024 && from1 j.speed 1048576 && from1 j.accel 1048576 && from1 j.torque 1099511627776) = true
theorem jointErr_zero {js : List Joint} {i : Nat} {j : Joint} (h1 : nameOk j.name = true) (h2 : find js j.name 0 = i) (h : bodyOk i j) : jointErr js i j = 0 := by
  obtain ⟨⟨a1, a2⟩, ⟨b1, b2⟩, c, ⟨d1, d2, d3⟩, e⟩ := h
  unfold jointErr
  rw [if_neg (by rw [h1, h2]; simp), if_neg (by omega), if_neg (by omega), if_neg (by rw [c]; simp), if_neg (by omega), if_neg (by rw [e]; simp)]
theorem jointErr_inv {js : List Joint} {i : Nat} {j : Joint} (h : jointErr js i j = 0) : nameOk j.name = true ∧ find js j.name 0 = i ∧ bodyOk i j := by
  unfold jointErr at h
  split at h
  · contradiction
  rename_i h1
  split at h
  · contradiction
  split at h
  · contradiction
  split at h
  · contradiction
  split at h
  · contradiction
  split at h
  · contradiction
  rename_i h4 h5 h6
  refine ⟨?_, ?_, ⟨by omega, by omega⟩, ⟨by omega, by omega⟩, by simpa using h4, ⟨by omega, by omega, by omega⟩, ?_⟩
  · cases h7 : nameOk j.name
    · exact absurd (.inl h7) h1
    · rfl
  · exact Decidable.byContradiction fun h7 => h1 (.inr h7)
  · exact (Bool.eq_false_or_eq_true _).resolve_right h6
end Go.Proofs.YthdbdokhncaijaaGreat

/- Robots: their check. -/
namespace Go.Proofs.YthdbdokhncaijaaGreat
open Eng
set_option maxRecDepth 10000
attribute [local irreducible] FnOk loopW idxF retX arrF

theorem robot_checkJoint (r : Robot) (i : Nat) (j : Joint) (hj : r.joints[i]? = some j) (hl : r.joints.length ≤ 4611686018427387904) : FnOk Tryz.prog F.robot_checkJoint [Ro r, I i] [] 0 (I (jointErr r.joints i j)) [] 0 := by
  refine fnOk tab mix G.robot_checkJoint rfl rfl (by kernel_rfl) rfl rfl ?_
  have hw : IntKind.i64.wrap (0 - reach j.kind) = - reach j.kind := by
    rcases reach_cases j.kind with h | h | h <;> rw [h] <;> rfl
  have e1 : nameOk j.name = false ∨ find r.joints j.name 0 ≠ i → jointErr r.joints i j = 802 := fun h => by unfold jointErr; rw [if_pos h]
  (conv => whnf)
  refine idx_and (by omega) (by simpa using hj) ?_
  (conv => whnf)
  refine call_i (token_Name j.name) ?_
  (conv => whnf)
  refine ask_m (fun h => ?_) (fun h => ?_)
  · (conv => whnf)
    refine ret0 ?_
    exact ret_i (e1 (.inl (by simpa using h))).symm rfl
  have n1 : nameOk j.name = true := by simpa using h
  (conv => whnf)
  refine call_i (robot_Find r j.name hl) ?_
  (conv => whnf)
  refine ask_m (fun h => ?_) (fun h => ?_)
  · (conv => whnf)
    refine ret0 ?_
    exact ret_i (e1 (.inr (by simpa using h))).symm rfl
  have n2 : find r.joints j.name 0 = i := by simpa using h
  have e2 : jointErr r.joints i j = if j.kind < 0 ∨ 6 < j.kind then 803
      else if j.parent < -1 ∨ (i : Int) ≤ j.parent then 804
      else if inV j.off 4194304 = false then 805
      else if j.hi < j.lo ∨ j.lo < - reach j.kind ∨ reach j.kind < j.hi then 806
      else if (from1 j.weight 1024 && from1 j.speed 1048576 && from1 j.accel 1048576 && from1 j.torque 1099511627776) = false then 807
      else 0 := by unfold jointErr; rw [if_neg (by simp [n1, n2])]
  rw [e2]
  (conv => whnf)
  refine ask_m (fun h => ?_) (fun h => ?_)
  · have h := of_decide_eq_true h
    (conv => whnf)
    refine ret0 ?_
    exact ret_i (by rw [if_pos (.inl h)]) rfl
  have k1 := of_decide_eq_false h
  (conv => whnf)
  refine ask_m (fun h => ?_) (fun h => ?_)
  · have h := of_decide_eq_true h
    (conv => whnf)
    refine ret0 ?_
    exact ret_i (by rw [if_pos (.inr h)]) rfl
  have k2 := of_decide_eq_false h
  rw [if_neg (by omega)]
  (conv => whnf)
  refine ask_m (fun h => ?_) (fun h => ?_)
  · have h := of_decide_eq_true h
    (conv => whnf)
    refine ret0 ?_
    exact ret_i (by rw [if_pos (.inl h)]) rfl
  have p1 := of_decide_eq_false h
  (conv => whnf)
  refine ask_m (fun h => ?_) (fun h => ?_)
  · have h := of_decide_eq_true h
    (conv => whnf)
    refine ret0 ?_
    exact ret_i (by rw [if_pos (.inr h)]) rfl
  have p2 := of_decide_eq_false h
  rw [if_neg (by omega)]
  (conv => whnf)
  refine call_i (robot_beyond j.off) ?_
  (conv => whnf)
  refine ask_m (fun h => ?_) (fun h => ?_)
  · (conv => whnf)
    refine ret0 ?_
    exact ret_i (by rw [if_pos (by simpa using h)]) rfl
  rw [if_neg (by simpa using h)]
  (conv => whnf)
  refine call_i (robot_limit j.kind) ?_
  (conv => whnf)
  refine ask_m (fun h => ?_) (fun h => ?_)
  · have h := of_decide_eq_true h
    (conv => whnf)
    refine ret0 ?_
    exact ret_i (by rw [if_pos (.inl h)]) rfl
  have l1 := of_decide_eq_false h
  (conv => whnf)
  rw [hw]
  refine ask_m (fun h => ?_) (fun h => ?_)
  · have h := of_decide_eq_true h
    (conv => whnf)
    refine ret0 ?_
    exact ret_i (by rw [if_pos (.inr (.inl h))]) rfl
  have l2 := of_decide_eq_false h
  (conv => whnf)
  refine ask_m (fun h => ?_) (fun h => ?_)
  · have h := of_decide_eq_true h
    (conv => whnf)
    refine ret0 ?_
    exact ret_i (by rw [if_pos (.inr (.inr h))]) rfl
  have l3 := of_decide_eq_false h
  rw [if_neg (by rintro (h | h | h) <;> contradiction)]
  (conv => whnf)
  refine call_i (robot_from1 j.weight 1024) ?_
  (conv => whnf)
  refine ask_m (fun h => ?_) (fun h => ?_)
  · (conv => whnf)
    refine ret0 ?_
    exact ret_i (by rw [if_pos (by simp at h; simp [h])]) rfl
  have f1 : from1 j.weight 1024 = true := by simpa using h
  (conv => whnf)
  refine call_i (robot_from1 j.speed 1048576) ?_
  (conv => whnf)
  refine ask_m (fun h => ?_) (fun h => ?_)
  · (conv => whnf)
    refine ret0 ?_
    exact ret_i (by rw [if_pos (by simp at h; simp [h])]) rfl
  have f2 : from1 j.speed 1048576 = true := by simpa using h
  (conv => whnf)
  refine call_i (robot_from1 j.accel 1048576) ?_
  (conv => whnf)
  refine ask_m (fun h => ?_) (fun h => ?_)
  · (conv => whnf)
    refine ret0 ?_
    exact ret_i (by rw [if_pos (by simp at h; simp [h])]) rfl
  have f3 : from1 j.accel 1048576 = true := by simpa using h
  (conv => whnf)
  refine call_i (robot_from1 j.torque 1099511627776) ?_
  (conv => whnf)
  refine ask_m (fun h => ?_) (fun h => ?_)
  · (conv => whnf)
    refine ret0 ?_
    exact ret_i (by rw [if_pos (by simp at h; simp [h])]) rfl
  have f4 : from1 j.torque 1099511627776 = true := by simpa using h
  (conv => whnf)
  refine ret0 ?_
  exact ret_i (by rw [if_neg (by simp [f1, f2, f3, f4])]) rfl
theorem robot_validMass (r : Robot) (m : Mass) : FnOk Tryz.prog F.robot_validMass [Ro r, Ma m] [] 0 (Bo (massOk r.joints.length m)) [] 0 := by
  refine fnOk tab mix G.robot_validMass rfl rfl (by kernel_rfl) rfl rfl ?_
  repeat' ((conv => whnf); first | refine ask_m (fun h => ?_) (fun h => ?_) | refine ret0 ?_ | refine call_i (robot_from1 m.mass 65536) ?_ | refine call_i (robot_beyond m.point) ?_)
  all_goals exact ret_b (by first | (simp_all [massOk]; done) | (simp_all [massOk]; omega)) rfl
theorem robot_Check_1 (r : Robot) (m : Mass) : FnOk Tryz.prog F.robot_Check_1 [Ma m, .one (.vptr 0 0)] [(0, bRo r)] 1 (Bo (!massOk r.joints.length m)) [(0, bRo r)] 1 := by
  refine fnOk tab mix G.robot_Check_1 rfl rfl (by kernel_rfl) rfl rfl ?_
  (conv => whnf)
  refine call_i (robot_validMass r m) ?_
  (conv => whnf)
  refine ret0 ?_
  exact ⟨[], ⟨rfl, trivial⟩, ⟨rfl, trivial⟩⟩
/-- the first mass that is not valid -/
def badMass (n : Nat) : List Mass → Nat → Int
  | [], _ => -1
  | m :: ms, k => if massOk n m then badMass n ms (k + 1) else k
theorem badMass_all (n : Nat) : ∀ (ms : List Mass) (k : Nat), decide (0 ≤ badMass n ms k) = !ms.all (massOk n)
  | [], k => by simp [badMass]
  | m :: ms, k => by
    unfold badMass
    split
    · rename_i h; rw [badMass_all n ms (k + 1)]; simp [h]
    · rename_i h; simp [h]
abbrev Fn1 : SV := .one (.fn F.robot_Check_1 [(0, 0)])
theorem masses_IndexFunc (r : Robot) (ms : List Mass) (hl : ms.length ≤ 4611686018427387904) : FnOk Tryz.prog F.slices_IndexFunc_sapi_Mass_api_Mass [.one (.dv (dMs ms)), Fn1] [(0, bRo r)] 1 (I (badMass r.joints.length ms 0)) [(0, bRo r)] 1 := by
  refine fnOk tab mix G.slices_IndexFunc_sapi_Mass_api_Mass rfl rfl (by kernel_rfl) rfl rfl ?_
  (conv => whnf)
  refine loop_intro (fun k : Nat => ⟨[(0, .one (.dv (dMs ms))), (1, Fn1), (7, I ms.length), (8, I k)], [(0, bRo r)], 1⟩) (fun k => k ≤ ms.length ∧ badMass r.joints.length (ms.drop k) k = badMass r.joints.length ms 0) (fun k => ms.length - k) [] 0 [] ⟨Nat.zero_le _, rfl⟩ ⟨⟨rfl, rfl, eqI (by simp), rfl, trivial⟩, ⟨rfl, trivial⟩⟩ ?_
  rintro k ⟨hk, hf⟩
  (conv => whnf)
  refine ask_m (fun h => ?_) (fun h => ?_)
  · have hlt : k < ms.length := by simpa using h
    obtain ⟨m, hm⟩ : ∃ j, ms[k]? = some j := ⟨_, List.getElem?_eq_getElem hlt⟩
    have hkk : IntKind.i64.wrap ((k : Int) + 1) = ((k + 1 : Nat) : Int) := by rw [w64] <;> omega
    rw [drop_cons hm, badMass] at hf
    (conv => whnf)
    refine idx_and (by omega) (by simpa using hm) ?_
    (conv => whnf)
    refine call_i (robot_Check_1 r m) ?_
    (conv => whnf)
    refine ask_m (fun h => ?_) (fun h => ?_)
    · have h : massOk r.joints.length m = false := by simpa using h
      rw [if_neg (by rw [h]; simp)] at hf
      rw [← hf]
      (conv => whnf)
      refine ret0 ?_
      exact ⟨[], ⟨rfl, trivial⟩, ⟨rfl, trivial⟩⟩
    · have h : massOk r.joints.length m = true := by simpa using h
      rw [if_pos h] at hf
      (conv => whnf)
      exact ⟨k + 1, [], ⟨hlt, hf⟩, by omega, ⟨⟨rfl, rfl, rfl, eqI hkk, trivial⟩, ⟨rfl, trivial⟩⟩⟩
  · have hk : k = ms.length := by simp at h; omega
    subst hk
    rw [List.drop_length, badMass] at hf
    rw [← hf]
    (conv => whnf)
    refine ret0 ?_
    exact ⟨[], ⟨rfl, trivial⟩, ⟨rfl, trivial⟩⟩
theorem masses_ContainsFunc (r : Robot) (ms : List Mass) (hl : ms.length ≤ 4611686018427387904) : FnOk Tryz.prog F.slices_ContainsFunc_sapi_Mass_api_Mass [.one (.dv (dMs ms)), Fn1] [(0, bRo r)] 1 (Bo (!ms.all (massOk r.joints.length))) [(0, bRo r)] 1 := by
  refine fnOk tab mix G.slices_ContainsFunc_sapi_Mass_api_Mass rfl rfl (by kernel_rfl) rfl rfl ?_
  rw [← badMass_all r.joints.length ms 0]
  (conv => whnf)
  refine call_i (masses_IndexFunc r ms hl) ?_
  (conv => whnf)
  refine ret0 ?_
  exact ⟨[], ⟨rfl, trivial⟩, ⟨rfl, trivial⟩⟩
theorem robot_Check (r : Robot) (hj : r.joints.length ≤ 4611686018427387904) (hm : r.masses.length ≤ 4611686018427387904) : FnOk Tryz.prog F.robot_Check [Ro r] [] 0 (I (checkRobot r)) [] 0 := by
  refine fnOk tab mix G.robot_Check rfl rfl (by kernel_rfl) rfl rfl ?_
  (conv => whnf)
  refine ask_m (fun h => ?_) (fun h => ?_)
  · have h : r.joints.length = 0 := by simpa using h
    (conv => whnf)
    refine ret0 ?_
    exact ret_i (by unfold checkRobot; rw [if_pos (.inl h)]) rfl
  have h1 : ¬ r.joints.length = 0 := by simpa using h
  (conv => whnf)
  refine ask_m (fun h => ?_) (fun h => ?_)
  · have h : 10 < r.joints.length := by have := of_decide_eq_true h; simp only [List.length_map] at this; omega
    (conv => whnf)
    refine ret0 ?_
    exact ret_i (by unfold checkRobot; rw [if_pos (.inr h)]) rfl
  have h2 : ¬ 10 < r.joints.length := by have := of_decide_eq_false h; simp only [List.length_map] at this; omega
  have e : checkRobot r = if jointsErr r.joints 0 r.joints ≠ 0 then jointsErr r.joints 0 r.joints
    else if 32 < r.masses.length ∨ r.masses.all (massOk r.joints.length) = false then 808 else 0 := by unfold checkRobot; rw [if_neg (by omega)]
  rw [e]
  (conv => whnf)
  refine loop_intro (fun k : Nat => ⟨[(1, .one (.vptr 0 0)), (17, I r.joints.length), (18, I k)], [(0, bRo r)], 1⟩) (fun k => k ≤ r.joints.length ∧ jointsErr r.joints k (r.joints.drop k) = jointsErr r.joints 0 r.joints) (fun k => r.joints.length - k) [] 0 [] ⟨Nat.zero_le _, rfl⟩ ⟨⟨rfl, eqI (by simp), rfl, trivial⟩, ⟨rfl, trivial⟩⟩ ?_
  rintro k ⟨hk, hf⟩
  (conv => whnf)
  refine ask_m (fun h => ?_) (fun h => ?_)
  · have hlt : k < r.joints.length := by simpa using h
    obtain ⟨j, hjk⟩ : ∃ j, r.joints[k]? = some j := ⟨_, List.getElem?_eq_getElem hlt⟩
    have hkk : IntKind.i64.wrap ((k : Int) + 1) = ((k + 1 : Nat) : Int) := by rw [w64] <;> omega
    rw [drop_cons hjk, jointsErr] at hf
    (conv => whnf)
    refine call_i (robot_checkJoint r k j hjk hj) ?_
    (conv => whnf)
    refine ask_m (fun h => ?_) (fun h => ?_)
    · have h : ¬ jointErr r.joints k j = 0 := by simpa using h
      rw [if_neg h] at hf
      (conv => whnf)
      refine ret0 ?_
      exact ret_i (by rw [← hf, if_pos h]) rfl
    · have h : jointErr r.joints k j = 0 := by simpa using h
      rw [if_pos h] at hf
      (conv => whnf)
      exact ⟨k + 1, [], ⟨hlt, hf⟩, by omega, ⟨⟨rfl, rfl, eqI hkk, trivial⟩, ⟨rfl, trivial⟩⟩⟩
  · have hk : k = r.joints.length := by simp at h; omega
    subst hk
    rw [List.drop_length, jointsErr] at hf
    rw [← hf, if_neg (by simp)]
    (conv => whnf)
    refine ask_m (fun h => ?_) (fun h => ?_)
    · have h : 32 < r.masses.length := by have := of_decide_eq_true h; simp only [List.length_map] at this; omega
      (conv => whnf)
      refine ret0 ?_
      exact ret_i (by rw [if_pos (.inl h)]) rfl
    · have h : ¬ 32 < r.masses.length := by have := of_decide_eq_false h; simp only [List.length_map] at this; omega
      (conv => whnf)
      refine call_i (masses_ContainsFunc r r.masses hm) ?_
      (conv => whnf)
      refine ask_m (fun h => ?_) (fun h => ?_)
      · (conv => whnf)
        refine ret0 ?_
        exact ret_i (by rw [if_pos (.inr (by simpa using h))]) rfl
      · (conv => whnf)
        refine ret0 ?_
        rename_i h32 _
        exact ret_i (by rw [if_neg]; rintro (h' | h'); · contradiction
                        · rw [h'] at h; cases h) rfl
end Go.Proofs.YthdbdokhncaijaaGreat

/- Scenes: their check, and the skipped pairs. -/
namespace Go.Proofs.YthdbdokhncaijaaGreat
open Eng
set_option maxRecDepth 10000
attribute [local irreducible] FnOk loopW idxF retX arrF

theorem scene_isLink (s : Scene) (k : Int) : FnOk Tryz.prog F.scene_isLink [Sc s, I k] [] 0 (Bo (linkOk s.robot.joints.length k)) [] 0 := by
  refine fnOk tab mix G.scene_isLink rfl rfl (by kernel_rfl) rfl rfl ?_
  repeat' ((conv => whnf); first | refine ask_m (fun h => ?_) (fun h => ?_) | refine ret0 ?_)
  all_goals exact ret_b (by first | (simp_all [linkOk]; done) | (simp_all [linkOk]; omega)) rfl
theorem scene_checkShape (s : Scene) (x : Shape) (hx : x.points.length ≤ 4611686018427387904) : FnOk Tryz.prog F.scene_checkShape [Sc s, Sh x] [] 0 (I (shapeErr s.robot.joints.length x)) [] 0 := by
  refine fnOk tab mix G.scene_checkShape rfl rfl (by kernel_rfl) rfl rfl ?_
  have e1 : linkOk s.robot.joints.length x.link = false ∨ x.radius < 1 ∨ 1048576 < x.radius ∨ x.points.length < 1 ∨ 8 < x.points.length → shapeErr s.robot.joints.length x = 902 := fun h => by unfold shapeErr; rw [if_pos h]
  (conv => whnf)
  refine call_i (scene_isLink s x.link) ?_
  (conv => whnf)
  refine ask_m (fun h => ?_) (fun h => ?_)
  · (conv => whnf)
    refine ret0 ?_
    exact ret_i (e1 (.inl (by simpa using h))).symm rfl
  have k1 : linkOk s.robot.joints.length x.link = true := by simpa using h
  (conv => whnf)
  refine ask_m (fun h => ?_) (fun h => ?_)
  · (conv => whnf)
    refine ret0 ?_
    exact ret_i (e1 (.inr (.inl (of_decide_eq_true h)))).symm rfl
  have k2 := of_decide_eq_false h
  (conv => whnf)
  refine ask_m (fun h => ?_) (fun h => ?_)
  · (conv => whnf)
    refine ret0 ?_
    exact ret_i (e1 (.inr (.inr (.inl (of_decide_eq_true h))))).symm rfl
  have k3 := of_decide_eq_false h
  (conv => whnf)
  refine ask_m (fun h => ?_) (fun h => ?_)
  · have h : x.points.length < 1 := by have := of_decide_eq_true h; simp only [List.length_map] at this; omega
    (conv => whnf)
    refine ret0 ?_
    exact ret_i (e1 (.inr (.inr (.inr (.inl h))))).symm rfl
  have k4 : ¬ x.points.length < 1 := by have := of_decide_eq_false h; simp only [List.length_map] at this; omega
  (conv => whnf)
  refine ask_m (fun h => ?_) (fun h => ?_)
  · have h : 8 < x.points.length := by have := of_decide_eq_true h; simp only [List.length_map] at this; omega
    (conv => whnf)
    refine ret0 ?_
    exact ret_i (e1 (.inr (.inr (.inr (.inr h))))).symm rfl
  have k5 : ¬ 8 < x.points.length := by have := of_decide_eq_false h; simp only [List.length_map] at this; omega
  have e2 : shapeErr s.robot.joints.length x = if x.points.all (inV · 4194304) = false then 805 else 0 := by
    unfold shapeErr; rw [if_neg]; rintro (h | h | h | h | h)
    · rw [k1] at h; cases h
    all_goals contradiction
  rw [e2]
  (conv => whnf)
  refine loop_intro (fun k : Nat => ⟨[(37, .one (.dv (dVs x.points))), (38, I x.points.length), (39, I k)], [], 0⟩) (fun k => k ≤ x.points.length ∧ (x.points.take k).all (inV · 4194304) = true) (fun k => x.points.length - k) [] 0 [] ⟨Nat.zero_le _, rfl⟩ ⟨⟨rfl, eqI (by simp), rfl, trivial⟩, trivial⟩ ?_
  rintro k ⟨hk, hall⟩
  (conv => whnf)
  refine ask_m (fun h => ?_) (fun h => ?_)
  · have hlt : k < x.points.length := by simpa using h
    obtain ⟨p, hp⟩ : ∃ j, x.points[k]? = some j := ⟨_, List.getElem?_eq_getElem hlt⟩
    have hkk : IntKind.i64.wrap ((k : Int) + 1) = ((k + 1 : Nat) : Int) := by rw [w64] <;> omega
    (conv => whnf)
    refine idx_and (by omega) (by simpa using hp) ?_
    (conv => whnf)
    refine loop_intro (fun i : Nat => ⟨[(37, .one (.dv (dVs x.points))), (38, I x.points.length), (39, I k), (43, Ve p), (44, I i)], [], 0⟩) (fun i => i ≤ 3 ∧ ∀ c, c < i → inC (vAt p c) = true) (fun i => 3 - i) [] 0 [] ⟨Nat.zero_le _, fun i hi => by omega⟩ ⟨⟨rfl, rfl, rfl, rfl, rfl, trivial⟩, trivial⟩ ?_
    rintro i ⟨hi, halli⟩
    (conv => whnf)
    refine ask_m (fun h => ?_) (fun h => ?_)
    · have hlti : i < 3 := by have := of_decide_eq_true h; omega
      have hii : IntKind.i64.wrap ((i : Int) + 1) = ((i + 1 : Nat) : Int) := by rw [w64] <;> omega
      have bad : inC (vAt p i) = false → (if x.points.all (inV · 4194304) = false then (805 : Int) else 0) = 805 := fun h => by
        rw [if_pos (all_not (f := (inV · 4194304)) hp (inV_at hlti h))]
      (conv => whnf)
      refine ⟨⟨by omega, by omega⟩, ?_⟩
      (conv => whnf)
      rw [Int.toNat_natCast]
      refine arr_vec rfl rfl hlti ?_
      generalize hv : vAt p i = v at *
      (conv => whnf)
      refine ask_m (fun h => ?_) (fun h => ?_)
      · have h := of_decide_eq_true h
        (conv => whnf)
        refine ret0 ?_
        exact ret_i (bad (by simp only [inC, Bool.and_eq_false_iff, decide_eq_false_iff_not]; omega)).symm rfl
      have h1 := of_decide_eq_false h
      (conv => whnf)
      refine ask_m (fun h => ?_) (fun h => ?_)
      · have h := of_decide_eq_true h
        (conv => whnf)
        refine ret0 ?_
        exact ret_i (bad (by simp only [inC, Bool.and_eq_false_iff, decide_eq_false_iff_not]; omega)).symm rfl
      have h2 := of_decide_eq_false h
      (conv => whnf)
      refine ⟨i + 1, [], ⟨hlti, fun c hc => ?_⟩, by omega, ⟨⟨rfl, rfl, rfl, rfl, eqI hii, trivial⟩, trivial⟩⟩
      by_cases e : c = i
      · subst e; rw [hv]; simp only [inC, Bool.and_eq_true, decide_eq_true_eq]; omega
      · exact halli c (by omega)
    · have hi : i = 3 := by have := of_decide_eq_false h; omega
      subst hi
      (conv => whnf)
      exact ⟨k + 1, [], ⟨hlt, all_take hall hp (inV_all halli)⟩, by omega, ⟨⟨rfl, rfl, eqI hkk, trivial⟩, trivial⟩⟩
  · have hk : k = x.points.length := by simp at h; omega
    subst hk
    rw [List.take_length] at hall
    (conv => whnf)
    refine ret0 ?_
    exact ret_i (by rw [if_neg (by rw [hall]; simp)]) rfl
/-- a scene whose lists are no longer than memory -/
theorem scene_Check (s : Scene) (hs : small s) : FnOk Tryz.prog F.scene_Check [Sc s] [] 0 (I (checkScene s)) [] 0 := by
  refine fnOk tab mix G.scene_Check rfl rfl (by kernel_rfl) rfl rfl ?_
  obtain ⟨s1, s2, s3, s4, s5⟩ := hs
  (conv => whnf)
  refine call_i (robot_Check s.robot s1 s2) ?_
  (conv => whnf)
  refine ask_m (fun h => ?_) (fun h => ?_)
  · have h : ¬ checkRobot s.robot = 0 := by simpa using h
    (conv => whnf)
    refine ret0 ?_
    exact ret_i (by unfold checkScene; rw [if_pos h]) rfl
  have h0 : checkRobot s.robot = 0 := by simpa using h
  have e : checkScene s = if 24 < s.shapes.length then 901
    else if shapesErr s.robot.joints.length s.shapes ≠ 0 then shapesErr s.robot.joints.length s.shapes
    else if 64 < s.skips.length then 903
    else if (s.skips.all (skipOk s.robot.joints.length)) = false then 903
    else 0 := by unfold checkScene; rw [if_neg (by rw [h0]; simp)]; rfl
  rw [e]
  (conv => whnf)
  refine ask_m (fun h => ?_) (fun h => ?_)
  · have h : 24 < s.shapes.length := by have := of_decide_eq_true h; simp only [List.length_map] at this; omega
    (conv => whnf)
    refine ret0 ?_
    exact ret_i (by rw [if_pos h]) rfl
  have h1 : ¬ 24 < s.shapes.length := by have := of_decide_eq_false h; simp only [List.length_map] at this; omega
  rw [if_neg h1]
  (conv => whnf)
  refine loop_intro (fun k : Nat => ⟨[(1, .one (.vptr 0 0)), (20, .one (.dv (dShs s.shapes))), (21, I s.shapes.length), (22, I k)], [(0, bSc s)], 1⟩) (fun k => k ≤ s.shapes.length ∧ shapesErr s.robot.joints.length (s.shapes.drop k) = shapesErr s.robot.joints.length s.shapes) (fun k => s.shapes.length - k) [] 0 [] ⟨Nat.zero_le _, rfl⟩ ⟨⟨rfl, rfl, eqI (by simp), rfl, trivial⟩, ⟨rfl, trivial⟩⟩ ?_
  rintro k ⟨hk, hf⟩
  (conv => whnf)
  refine ask_m (fun h => ?_) (fun h => ?_)
  · have hlt : k < s.shapes.length := by simpa using h
    obtain ⟨x, hx⟩ : ∃ j, s.shapes[k]? = some j := ⟨_, List.getElem?_eq_getElem hlt⟩
    have hkk : IntKind.i64.wrap ((k : Int) + 1) = ((k + 1 : Nat) : Int) := by rw [w64] <;> omega
    rw [drop_cons hx, shapesErr] at hf
    (conv => whnf)
    refine idx_and (by omega) (by simpa using hx) ?_
    (conv => whnf)
    refine call_i (scene_checkShape s x (s5 x (List.mem_of_getElem? hx))) ?_
    (conv => whnf)
    refine ask_m (fun h => ?_) (fun h => ?_)
    · have h : ¬ shapeErr s.robot.joints.length x = 0 := by simpa using h
      rw [if_neg h] at hf
      (conv => whnf)
      refine ret0 ?_
      exact ret_i (by rw [← hf, if_pos h]) rfl
    · have h : shapeErr s.robot.joints.length x = 0 := by simpa using h
      rw [if_pos h] at hf
      (conv => whnf)
      exact ⟨k + 1, [], ⟨hlt, hf⟩, by omega, ⟨⟨rfl, rfl, rfl, eqI hkk, trivial⟩, ⟨rfl, trivial⟩⟩⟩
  have hk : k = s.shapes.length := by simp at h; omega
  subst hk
  rw [List.drop_length, shapesErr] at hf
  rw [← hf, if_neg (by simp)]
  (conv => whnf)
  refine ask_m (fun h => ?_) (fun h => ?_)
  · have h : 64 < s.skips.length := by have := of_decide_eq_true h; simp only [List.length_map] at this; omega
    (conv => whnf)
    refine ret0 ?_
    exact ret_i (by rw [if_pos h]) rfl
  have h2 : ¬ 64 < s.skips.length := by have := of_decide_eq_false h; simp only [List.length_map] at this; omega
  rw [if_neg h2]
  (conv => whnf)
  refine loop_intro (fun k : Nat => ⟨[(1, .one (.vptr 0 0)), (38, .one (.dv (dSks s.skips))), (39, I s.skips.length), (40, I k)], [(0, bSc s)], 1⟩) (fun k => k ≤ s.skips.length ∧ (s.skips.take k).all (skipOk s.robot.joints.length) = true) (fun k => s.skips.length - k) [] 0 [] ⟨Nat.zero_le _, rfl⟩ ⟨⟨rfl, rfl, eqI (by simp), rfl, trivial⟩, ⟨rfl, trivial⟩⟩ ?_
  rintro k ⟨hk, hall⟩
  (conv => whnf)
  refine ask_m (fun h => ?_) (fun h => ?_)
  · have hlt : k < s.skips.length := by simpa using h
    obtain ⟨x, hx⟩ : ∃ j, s.skips[k]? = some j := ⟨_, List.getElem?_eq_getElem hlt⟩
    have hkk : IntKind.i64.wrap ((k : Int) + 1) = ((k + 1 : Nat) : Int) := by rw [w64] <;> omega
    have bad : skipOk s.robot.joints.length x = false → (if (s.skips.all (skipOk s.robot.joints.length)) = false then (903 : Int) else 0) = 903 := fun h => by rw [if_pos (all_not hx h)]
    (conv => whnf)
    refine idx_and (by omega) (by simpa using hx) ?_
    (conv => whnf)
    refine call_i (scene_isLink s x.a) ?_
    (conv => whnf)
    refine ask_m (fun h => ?_) (fun h => ?_)
    · (conv => whnf)
      refine ret0 ?_
      exact ret_i (bad (by simp at h; simp [skipOk, h])).symm rfl
    have ha : linkOk s.robot.joints.length x.a = true := by simpa using h
    (conv => whnf)
    refine call_i (scene_isLink s x.b) ?_
    (conv => whnf)
    refine ask_m (fun h => ?_) (fun h => ?_)
    · (conv => whnf)
      refine ret0 ?_
      exact ret_i (bad (by simp at h; simp [skipOk, h])).symm rfl
    have hb : linkOk s.robot.joints.length x.b = true := by simpa using h
    (conv => whnf)
    exact ⟨k + 1, [], ⟨hlt, all_take hall hx (by simp [skipOk, ha, hb])⟩, by omega, ⟨⟨rfl, rfl, rfl, eqI hkk, trivial⟩, ⟨rfl, trivial⟩⟩⟩
  · have hk : k = s.skips.length := by simp at h; omega
    subst hk
    rw [List.take_length] at hall
    (conv => whnf)
    refine ret0 ?_
    exact ret_i (by rw [if_neg (by rw [hall]; simp)]) rfl
/-- a skip has the links, in either order -/
def isSkip (a b : Int) (k : Skip) : Bool := (decide (k.a = a) && decide (k.b = b)) || (decide (k.a = b) && decide (k.b = a))
def skipped (s : Scene) (a b : Int) : Bool := s.skips.any (isSkip a b)
theorem cmpSkip : cmpB Tryz.prog 8 Y.Skip = true ∧ Tryz.prog.eqGuardType Tryz.prog.depth Y.Skip = false := ⟨by kernel_rfl, by kernel_rfl⟩
theorem scene_Skipped (s : Scene) (a b : Int) (hs : s.skips.length ≤ 4611686018427387904) : FnOk Tryz.prog F.scene_Skipped [Sc s, I a, I b] [] 0 (Bo (skipped s a b)) [] 0 := by
  refine fnOk tab mix G.scene_Skipped rfl rfl (by kernel_rfl) rfl rfl ?_
  (conv => whnf)
  refine loop_intro (fun k : Nat => ⟨[(1, I a), (2, I b), (10, .one (.dv (dSks s.skips))), (11, I s.skips.length), (12, I k)], [], 0⟩) (fun k => k ≤ s.skips.length ∧ (s.skips.take k).any (isSkip a b) = false) (fun k => s.skips.length - k) [] 0 [] ⟨Nat.zero_le _, rfl⟩ ⟨⟨rfl, rfl, rfl, eqI (by simp), rfl, trivial⟩, trivial⟩ ?_
  rintro k ⟨hk, hall⟩
  (conv => whnf)
  refine ask_m (fun h => ?_) (fun h => ?_)
  · have hlt : k < s.skips.length := by simpa using h
    obtain ⟨x, hx⟩ : ∃ j, s.skips[k]? = some j := ⟨_, List.getElem?_eq_getElem hlt⟩
    have hkk : IntKind.i64.wrap ((k : Int) + 1) = ((k + 1 : Nat) : Int) := by rw [w64] <;> omega
    (conv => whnf)
    refine idx_and (by omega) (by simpa using hx) ?_
    (conv => whnf)
    refine ⟨cmpSkip, ?_⟩
    (conv => whnf)
    refine ask_m (fun h => ?_) (fun h => ?_)
    · (conv => whnf)
      refine ret0 ?_
      exact ret_b (any_yes hx (by simp at h; simp [isSkip, h])).symm rfl
    (conv => whnf)
    refine ⟨cmpSkip, ?_⟩
    (conv => whnf)
    refine ask_m (fun h2 => ?_) (fun h2 => ?_)
    · (conv => whnf)
      refine ret0 ?_
      exact ret_b (any_yes hx (by simp at h2; simp [isSkip, h2])).symm rfl
    · (conv => whnf)
      exact ⟨k + 1, [], ⟨hlt, any_take hall hx (by simp at h h2; simp [isSkip]; exact ⟨h, h2⟩)⟩, by omega, ⟨⟨rfl, rfl, rfl, rfl, eqI hkk, trivial⟩, trivial⟩⟩
  · have hk : k = s.skips.length := by simp at h; omega
    subst hk
    rw [List.take_length] at hall
    (conv => whnf)
    refine ret0 ?_
    exact ret_b hall.symm rfl
end Go.Proofs.YthdbdokhncaijaaGreat

/- Carriers; what valid robots are. No program in sight. -/
namespace Go.Proofs.YthdbdokhncaijaaGreat
open Eng
set_option maxRecDepth 10000

def carStep (acc : List Int) (j : Joint) : List Int := acc ++ [if j.lo = j.hi then acc.getD (j.parent + 1).toNat 0 else (acc.length : Int) - 1]
/-- who carries each link: the world's -1 first -/
def carriers (js : List Joint) : List Int := js.foldl carStep [-1]
theorem car_len (js : List Joint) : (carriers js).length = js.length + 1 := by
  have h : ∀ (js : List Joint) (acc : List Int), (js.foldl carStep acc).length = acc.length + js.length := by
    intro js
    induction js with
    | nil => intro acc; simp
    | cons j js ih => intro acc; rw [List.foldl_cons, ih]; simp [carStep]; omega
  rw [carriers, h]; simp; omega
theorem car_take {js : List Joint} {k : Nat} {j : Joint} (h : js[k]? = some j) : carriers (js.take (k + 1)) = carStep (carriers (js.take k)) j := by
  rw [List.take_add_one, h, carriers, List.foldl_append]; rfl
def downOk (js : List Joint) : Prop := ∀ (k : Nat) (j : Joint), js[k]? = some j → -1 ≤ j.parent ∧ j.parent < (k : Int)
theorem row_set {c rest : List Int} {v w : Int} {k : Nat} (h : c.length = k) : ((c ++ v :: rest).map encI).set k (encI w) = (c ++ w :: rest).map encI := by
  rw [← List.map_set]; subst h; simp
theorem jerr_at {js : List Joint} : ∀ {l : List Joint} {i k : Nat} {j : Joint}, jointsErr js i l = 0 → l[k]? = some j → jointErr js (i + k) j = 0
  | [], _, _, _, _, h => by simp at h
  | x :: l, i, 0, j, h, hj => by
    simp at hj; subst hj
    rw [jointsErr] at h
    split at h
    · assumption
    · contradiction
  | x :: l, i, k + 1, j, h, hj => by
    rw [jointsErr] at h
    split at h
    · have := jerr_at (i := i + 1) (k := k) h (by simpa using hj)
      rw [← this]; congr 1; omega
    · contradiction
theorem robot_good {r : Robot} (h : checkRobot r = 0) : r.joints.length ≤ 10 ∧ 0 < r.joints.length ∧ downOk r.joints := by
  unfold checkRobot at h
  split at h
  · contradiction
  rename_i h1
  split at h
  · contradiction
  rename_i h2
  simp only [ne_eq, Decidable.not_not] at h2
  refine ⟨by omega, by omega, fun k j hj => ?_⟩
  have := jerr_at h2 hj
  rw [Nat.zero_add] at this
  unfold jointErr at this
  (repeat' split at this) <;> first | contradiction | omega
end Go.Proofs.YthdbdokhncaijaaGreat

/- Scenes: the carriers of the links, and the pairs. -/
namespace Go.Proofs.YthdbdokhncaijaaGreat
open Eng
set_option maxRecDepth 10000
attribute [local irreducible] FnOk loopW idxF retX arrF

theorem scene_carriers (r : Robot) (hn : r.joints.length ≤ 1000) (hd : downOk r.joints) : FnOk Tryz.prog F.scene_carriers [Ro r] [] 0 (.one (.row 0)) [(0, .rows 3 1 ((carriers r.joints).map encI))] 1 := by
  refine fnOk tab mix G.scene_carriers rfl rfl (by kernel_rfl) rfl rfl ?_
  (conv => whnf)
  have hw : IntKind.i64.wrap ((r.joints.length : Int) + 1) = ((r.joints.length + 1 : Nat) : Int) := by rw [w64] <;> omega
  rw [List.length_map, hw]
  refine ⟨⟨by omega, by omega, by show (8 : Int) * _ ≤ _; omega, by omega⟩, ?_⟩
  (conv => whnf)
  refine ⟨⟨by omega, by simp⟩, ?_⟩
  (conv => whnf)
  refine idx_at (r := [.int .i64 0]) (by simp) ?_
  (conv => whnf)
  refine loop_intro (fun k : Nat => ⟨[(1, .one (.vptr 0 0)), (3, .one (.row 1)), (14, .one (.dv (dJs r.joints))), (15, I r.joints.length), (16, I k)], [(0, bRo r), (1, .rows 3 1 ((carriers (r.joints.take k) ++ List.replicate (r.joints.length - k) 0).map encI))], 2⟩) (fun k => k ≤ r.joints.length) (fun k => r.joints.length - k) [] 0 [] (Nat.zero_le _) ⟨⟨rfl, rfl, rfl, eqI (by simp), rfl, trivial⟩, ⟨rfl, ?_, trivial⟩⟩ ?_
  · show Box.rows 3 1 _ = Box.rows 3 1 _
    congr 1
    rw [Int.toNat_natCast, List.replicate_succ]
    simp [carriers, encI]
  rintro k hk
  (conv => whnf)
  refine ask_m (fun h => ?_) (fun h => ?_)
  · have hlt : k < r.joints.length := by simpa using h
    obtain ⟨j, hj⟩ : ∃ j, r.joints[k]? = some j := ⟨_, List.getElem?_eq_getElem hlt⟩
    have hkk : IntKind.i64.wrap ((k : Int) + 1) = ((k + 1 : Nat) : Int) := by rw [w64] <;> omega
    obtain ⟨d1, d2⟩ := hd k j hj
    have hpp : IntKind.i64.wrap (j.parent + 1) = (((j.parent + 1).toNat : Nat) : Int) := by rw [w64] <;> omega
    have hcl : (carriers (r.joints.take k)).length = k + 1 := by rw [car_len, List.length_take]; omega
    have hct := car_take hj
    obtain ⟨m, hm⟩ : ∃ m, r.joints.length - k = m + 1 := ⟨r.joints.length - k - 1, by omega⟩
    have hm2 : r.joints.length - (k + 1) = m := by omega
    rw [carStep, hcl] at hct
    generalize hc : carriers (r.joints.take k) = c at *
    rw [hm, List.replicate_succ]
    (conv => whnf)
    refine idx_and (by omega) (by simpa using hj) ?_
    (conv => whnf)
    rw [hkk]
    refine ⟨⟨by omega, by simp; omega⟩, ?_⟩
    (conv => whnf)
    rw [Int.toNat_natCast]
    refine idx_at (r := encI 0) (by simp [hcl]) ?_
    (conv => whnf)
    refine ask_m (fun h => ?_) (fun h => ?_)
    · have h := of_decide_eq_true h
      rw [if_pos h] at hct
      have hset : ((c ++ 0 :: List.replicate m 0).map encI).set (k + 1) [.int .i64 (k : Int)] = (c ++ (k : Int) :: List.replicate m 0).map encI := row_set hcl
      obtain ⟨x, hx⟩ : ∃ x, c[(j.parent + 1).toNat]? = some x := ⟨_, List.getElem?_eq_getElem (by omega)⟩
      have hxd : c.getD (j.parent + 1).toNat 0 = x := by rw [List.getD_eq_getElem?_getD, hx]; rfl
      rw [hxd] at hct
      (conv => whnf)
      rw [hset, hpp]
      refine ⟨⟨by omega, by simp; omega⟩, ?_⟩
      (conv => whnf)
      rw [Int.toNat_natCast]
      refine idx_map (x := x) (by rw [List.getElem?_append_left (by omega)]; exact hx) ?_
      (conv => whnf)
      refine ⟨⟨by omega, by simp; omega⟩, ?_⟩
      (conv => whnf)
      refine idx_map (x := (k : Int)) (by rw [hkk, Int.toNat_natCast]; simp [hcl]) ?_
      (conv => whnf)
      refine ⟨k + 1, [], hlt, by omega, ⟨⟨rfl, rfl, rfl, rfl, eqI hkk, trivial⟩, ⟨rfl, ?_, trivial⟩⟩⟩
      show Box.rows 3 1 _ = Box.rows 3 1 _
      rw [hkk, Int.toNat_natCast, hct, hm2, List.append_assoc]
      exact congrArg _ (row_set hcl)
    · have h := of_decide_eq_false h
      rw [if_neg h] at hct
      (conv => whnf)
      refine ⟨k + 1, [], hlt, by omega, ⟨⟨rfl, rfl, rfl, rfl, eqI hkk, trivial⟩, ⟨rfl, ?_, trivial⟩⟩⟩
      show Box.rows 3 1 _ = Box.rows 3 1 _
      rw [hct, hm2, List.append_assoc, show ((k + 1 : Nat) : Int) - 1 = k by omega]
      exact congrArg _ (row_set hcl)
  · have hk : k = r.joints.length := by simp at h; omega
    subst hk
    (conv => whnf)
    refine ret0 ?_
    rw [Nat.sub_self, List.take_length]
    simp only [List.replicate_zero, List.append_nil]
    exact ⟨[(0, 1)], ⟨rfl, trivial⟩, ⟨rfl, trivial⟩⟩
theorem serr_at {n : Nat} : ∀ {l : List Shape} {x : Shape}, shapesErr n l = 0 → x ∈ l → shapeErr n x = 0
  | [], _, _, h => by cases h
  | y :: l, x, h, hx => by
    rw [shapesErr] at h
    split at h
    · rcases List.mem_cons.1 hx with e | e
      · subst e; assumption
      · exact serr_at h e
    · contradiction
theorem scene_good {s : Scene} (h : checkScene s = 0) : checkRobot s.robot = 0 ∧ s.shapes.length ≤ 24 ∧ (∀ x ∈ s.shapes, -1 ≤ x.link ∧ x.link < s.robot.joints.length) ∧ s.skips.length ≤ 64 := by
  unfold checkScene at h
  split at h
  · contradiction
  rename_i h1
  split at h
  · contradiction
  split at h
  · contradiction
  rename_i h2
  split at h
  · contradiction
  simp only [ne_eq, Decidable.not_not] at h1 h2
  refine ⟨h1, by omega, fun x hx => ?_, by omega⟩
  have := serr_at h2 hx
  unfold shapeErr at this
  split at this
  · contradiction
  rename_i h3
  have h4 : linkOk s.robot.joints.length x.link = true := by
    cases h5 : linkOk s.robot.joints.length x.link
    · exact absurd (.inl h5) h3
    · rfl
  simp [linkOk] at h4
  exact h4
def carr (s : Scene) (k : Int) : Int := (carriers s.robot.joints).getD (k + 1).toNat 0
def wanted (s : Scene) (x y : Shape) : Bool := !(decide (carr s x.link = carr s y.link)) && !(skipped s x.link y.link)
def wantAt (s : Scene) (i j : Nat) : Bool := decide (i < j) && match s.shapes[i]?, s.shapes[j]? with
  | some x, some y => wanted s x y
  | _, _ => false
def pairRow (s : Scene) (i j : Nat) : List Pair := ((List.range j).filter (wantAt s i)).map fun (j : Nat) => ⟨(i : Int), (j : Int)⟩
def pairsTo (s : Scene) (k : Nat) : List Pair := (List.range k).flatMap fun i => pairRow s i s.shapes.length
def pairs (s : Scene) : List Pair := if checkScene s = 0 then pairsTo s s.shapes.length else []
theorem pairRow_self (s : Scene) (i : Nat) : pairRow s i (i + 1) = [] := by
  unfold pairRow
  rw [List.map_eq_nil_iff, List.filter_eq_nil_iff]
  intro j hj
  have := List.mem_range.1 hj
  simp [wantAt]; omega
theorem pairRow_succ (s : Scene) (i j : Nat) : pairRow s i (j + 1) = pairRow s i j ++ if wantAt s i j then [⟨(i : Int), (j : Int)⟩] else [] := by
  unfold pairRow
  rw [List.range_succ, List.filter_append, List.map_append]
  congr 1
  by_cases h : wantAt s i j <;> simp [h]
theorem pairsTo_succ (s : Scene) (k : Nat) : pairsTo s (k + 1) = pairsTo s k ++ pairRow s k s.shapes.length := by
  unfold pairsTo; rw [List.range_succ]; simp
theorem pairRow_len (s : Scene) (i j : Nat) : (pairRow s i j).length ≤ j := by
  unfold pairRow; rw [List.length_map]; exact Nat.le_trans (List.length_filter_le _ _) (by simp)
theorem pairsTo_len (s : Scene) (k : Nat) : (pairsTo s k).length ≤ k * s.shapes.length := by
  induction k with
  | zero => simp [pairsTo]
  | succ k ih => rw [pairsTo_succ, List.length_append, Nat.succ_mul]; have := pairRow_len s k s.shapes.length; omega
abbrev bPa (l : List Pair) : Box := .rows Y.Pair 2 (l.map encPa)
theorem scene_Pairs (s : Scene) (hs : small s) : FnOk Tryz.prog F.scene_Pairs [Sc s] [] 0 (.one (.row 0)) [(0, bPa (pairs s))] 1 := by
  refine fnOk tab mix G.scene_Pairs rfl rfl (by kernel_rfl) rfl rfl ?_
  (conv => whnf)
  refine call_i (scene_Check s hs) ?_
  (conv => whnf)
  refine ask_m (fun h => ?_) (fun h => ?_)
  · have h : ¬ checkScene s = 0 := by simpa using h
    (conv => whnf)
    refine retO [.own 2 Y.Pair 2] ?_
    (conv => whnf)
    have e : pairs s = [] := by unfold pairs; rw [if_neg h]
    rw [e]
    exact ⟨[(0, 1)], ⟨rfl, trivial⟩, ⟨rfl, trivial⟩⟩
  have h0 : checkScene s = 0 := by simpa using h
  obtain ⟨g1, g2, g3, g4⟩ := scene_good h0
  obtain ⟨g5, g6, g7⟩ := robot_good g1
  have e : pairs s = pairsTo s s.shapes.length := by unfold pairs; rw [if_pos h0]
  rw [e]
  (conv => whnf)
  refine call_i (scene_carriers s.robot (by omega) g7) ?_
  (conv => whnf)
  have hcl := car_len s.robot.joints
  have hcar : ∀ k : Int, -1 ≤ k → k < s.robot.joints.length → (carriers s.robot.joints)[(k + 1).toNat]? = some (carr s k) := fun k h1 h2 => by
    have h3 : (k + 1).toNat < (carriers s.robot.joints).length := by omega
    rw [carr, List.getD_eq_getElem?_getD, List.getElem?_eq_getElem h3]; rfl
  refine loop_intro (fun k : Nat => ⟨[(1, .one (.vptr 0 0)), (3, .one (.row 1)), (4, .one (.row 2)), (17, .one (.dv (dShs s.shapes))), (18, I s.shapes.length), (19, I k)], [(0, bSc s), (1, .rows 3 1 ((carriers s.robot.joints).map encI)), (2, bPa (pairsTo s k))], 3⟩) (fun k => k ≤ s.shapes.length) (fun k => s.shapes.length - k) [.own 4 Y.Pair 2] 0 [] (Nat.zero_le _) ⟨⟨rfl, rfl, rfl, rfl, eqI (by simp), rfl, trivial⟩, ⟨rfl, rfl, rfl, trivial⟩⟩ ?_
  rintro k hk
  (conv => whnf)
  refine ask_m (fun h => ?_) (fun h => ?_)
  · have hlt : k < s.shapes.length := by simpa using h
    obtain ⟨x, hx⟩ : ∃ j, s.shapes[k]? = some j := ⟨_, List.getElem?_eq_getElem hlt⟩
    have hkk : IntKind.i64.wrap ((k : Int) + 1) = ((k + 1 : Nat) : Int) := by rw [w64] <;> omega
    obtain ⟨x1, x2⟩ := g3 x (List.mem_of_getElem? hx)
    have hxl : IntKind.i64.wrap (x.link + 1) = x.link + 1 := by rw [w64] <;> omega
    (conv => whnf)
    refine idx_and (by omega) (by simpa using hx) ?_
    (conv => whnf)
    refine loop_intro (fun j : Nat => ⟨[(1, .one (.vptr 0 0)), (3, .one (.row 1)), (4, .one (.row 2)), (17, .one (.dv (dShs s.shapes))), (18, I s.shapes.length), (19, I k), (5, I k), (6, .one (.vptr 3 0)), (7, I j)], [(0, bSc s), (1, .rows 3 1 ((carriers s.robot.joints).map encI)), (2, bPa (pairsTo s k ++ pairRow s k j)), (3, .vars Y.Shape [.dv (.int .i64 x.link), .dv (.int .i64 x.radius), .dv (dVs x.points)])], 4⟩) (fun j => k < j ∧ j ≤ s.shapes.length) (fun j => s.shapes.length - j) [] (k + 1) [] ⟨by omega, by omega⟩ ⟨⟨rfl, rfl, rfl, rfl, rfl, rfl, rfl, rfl, eqI hkk, trivial⟩, ⟨rfl, rfl, ?_, rfl, trivial⟩⟩ ?_
    · show bPa _ = bPa _
      rw [pairRow_self, List.append_nil]
    rintro j ⟨hj1, hj2⟩
    (conv => whnf)
    refine ask_m (fun h => ?_) (fun h => ?_)
    · have hlj : j < s.shapes.length := by simpa using h
      obtain ⟨y, hy⟩ : ∃ y, s.shapes[j]? = some y := ⟨_, List.getElem?_eq_getElem hlj⟩
      have hjj : IntKind.i64.wrap ((j : Int) + 1) = ((j + 1 : Nat) : Int) := by rw [w64] <;> omega
      obtain ⟨y1, y2⟩ := g3 y (List.mem_of_getElem? hy)
      have hyl : IntKind.i64.wrap (y.link + 1) = y.link + 1 := by rw [w64] <;> omega
      have hw : wantAt s k j = wanted s x y := by simp [wantAt, hx, hy, hj1]
      (conv => whnf)
      refine idx_and (by omega) (by simpa using hy) ?_
      (conv => whnf)
      rw [hxl]
      refine ⟨⟨by omega, by simp; omega⟩, ?_⟩
      (conv => whnf)
      refine idx_map (hcar _ x1 x2) ?_
      (conv => whnf)
      rw [hyl]
      refine ⟨⟨by omega, by simp; omega⟩, ?_⟩
      (conv => whnf)
      refine idx_map (hcar _ y1 y2) ?_
      (conv => whnf)
      have hjl := pairsTo_len s k
      have hjr := pairRow_len s k j
      have hbig : (pairsTo s k ++ pairRow s k j).length ≤ 1000 := by
        rw [List.length_append]
        have := Nat.mul_le_mul (show k ≤ 24 by omega) g2
        omega
      generalize hb : (carr s x.link == carr s y.link) = b
      cases b with
      | true =>
        have hwf : wantAt s k j = false := by rw [hw, wanted]; simp at hb; simp [hb]
        (conv => whnf)
        refine ⟨j + 1, [], ⟨by omega, by omega⟩, by omega, ⟨⟨rfl, rfl, rfl, rfl, rfl, rfl, rfl, rfl, eqI hjj, trivial⟩, ⟨rfl, rfl, ?_, rfl, trivial⟩⟩⟩
        have e2 : pairRow s k (j + 1) = pairRow s k j := by rw [pairRow_succ, hwf]; simp
        rw [e2]; rfl
      | false =>
        (conv => whnf)
        refine call_i (scene_Skipped s x.link y.link (by omega)) ?_
        (conv => whnf)
        generalize hb2 : skipped s x.link y.link = b2
        have hwf : wantAt s k j = !b2 := by rw [hw, wanted, hb2]; simp at hb; simp [hb]
        refine ask_m (fun h => ?_) (fun h => ?_)
        · have e2 : pairRow s k (j + 1) = pairRow s k j ++ [⟨(k : Int), (j : Int)⟩] := by rw [pairRow_succ, hwf, h]; rfl
          (conv => whnf)
          rw [List.length_append] at hbig
          refine ⟨⟨by simp; omega, by simp; omega⟩, ?_⟩
          (conv => whnf)
          refine ⟨j + 1, [(2, 6)], ⟨by omega, by omega⟩, by omega, ⟨⟨rfl, rfl, rfl, rfl, rfl, rfl, rfl, rfl, eqI hjj, trivial⟩, ⟨rfl, rfl, ?_, rfl, trivial⟩⟩⟩
          show Box.rows Y.Pair 2 _ = Box.rows Y.Pair 2 _
          refine congrArg _ ?_
          rw [e2, ← List.append_assoc, List.map_append (l₁ := pairsTo s k ++ pairRow s k j)]; rfl
        · have e2 : pairRow s k (j + 1) = pairRow s k j := by rw [pairRow_succ, hwf, h]; simp
          (conv => whnf)
          refine ⟨j + 1, [], ⟨by omega, by omega⟩, by omega, ⟨⟨rfl, rfl, rfl, rfl, rfl, rfl, rfl, rfl, eqI hjj, trivial⟩, ⟨rfl, rfl, ?_, rfl, trivial⟩⟩⟩
          rw [e2]; rfl
    · have hj : j = s.shapes.length := by simp at h; omega
      subst hj
      (conv => whnf)
      refine ⟨k + 1, [], hlt, by omega, ⟨⟨rfl, rfl, rfl, rfl, rfl, eqI hkk, trivial⟩, ⟨rfl, rfl, ?_, trivial⟩⟩⟩
      rw [pairsTo_succ]; rfl
  · have hk : k = s.shapes.length := by simp at h; omega
    subst hk
    (conv => whnf)
    refine ret0 ?_
    exact ⟨[(0, 2)], ⟨rfl, trivial⟩, ⟨rfl, trivial⟩⟩
end Go.Proofs.YthdbdokhncaijaaGreat

/- Robots: the chains of joints, and which links carry which. No program in sight. -/
namespace Go.Proofs.YthdbdokhncaijaaGreat
open Eng
set_option maxRecDepth 10000

def chainN (js : List Joint) : Nat → Int → List Int
  | 0, _ => []
  | f + 1, k => if k < 0 then [] else match js[k.toNat]? with
    | none => []
    | some j => chainN js f j.parent ++ [k]
/-- the joints from the world to a link -/
def chain (js : List Joint) (k : Int) : List Int := chainN js (k + 1).toNat k
theorem chainN_neg (js : List Joint) {f : Nat} {k : Int} (h : k < 0) : chainN js f k = [] := by
  cases f with
  | zero => rfl
  | succ f => rw [chainN, if_pos h]
theorem chainN_fuel {js : List Joint} (hd : downOk js) : ∀ (f g : Nat) (k : Int), (k + 1).toNat ≤ f → (k + 1).toNat ≤ g → chainN js f k = chainN js g k
  | 0, g, k, h1, _ => by rw [chainN_neg js (by omega), chainN_neg js (by omega)]
  | f + 1, 0, k, _, h2 => by rw [chainN_neg js (by omega), chainN_neg js (by omega)]
  | f + 1, g + 1, k, h1, h2 => by
    rw [chainN, chainN]
    split
    · rfl
    · cases hj : js[k.toNat]? with
      | none => rfl
      | some j =>
        have := hd _ j hj
        simp only
        rw [chainN_fuel hd f g j.parent (by omega) (by omega)]
theorem chain_neg (js : List Joint) {k : Int} (h : k < 0) : chain js k = [] := chainN_neg js h
theorem chain_step {js : List Joint} (hd : downOk js) {k : Nat} {j : Joint} (hj : js[k]? = some j) : chain js k = chain js j.parent ++ [(k : Int)] := by
  have := hd k j hj
  rw [chain, show ((k : Int) + 1).toNat = k + 1 by omega, chainN, if_neg (by omega), Int.toNat_natCast, hj]
  simp only
  rw [chain, chainN_fuel hd k (j.parent + 1).toNat j.parent (by omega) (Nat.le_refl _)]
theorem link_ind {js : List Joint} (hd : downOk js) {C : Int → Prop} (h0 : C (-1)) (hs : ∀ (k : Nat) (j : Joint), js[k]? = some j → C j.parent → C k) : ∀ (k : Int), -1 ≤ k → k < js.length → C k := by
  have : ∀ (n : Nat) (k : Int), (k + 1).toNat ≤ n → -1 ≤ k → k < js.length → C k := by
    intro n
    induction n with
    | zero =>
      intro k h1 h2 _
      have : k = -1 := by omega
      subst this; exact h0
    | succ n ih =>
      intro k h1 h2 h3
      by_cases hk : k = -1
      · subst hk; exact h0
      · obtain ⟨m, rfl⟩ : ∃ m : Nat, k = m := ⟨k.toNat, by omega⟩
        obtain ⟨j, hj⟩ : ∃ j, js[m]? = some j := ⟨_, List.getElem?_eq_getElem (by omega)⟩
        have := hd m j hj
        exact hs m j hj (ih j.parent (by omega) (by omega) (by omega))
  intro k h1 h2
  exact this _ k (Nat.le_refl _) h1 h2
theorem chain_in {js : List Joint} (hd : downOk js) : ∀ (k : Int), -1 ≤ k → k < js.length → (∀ x ∈ chain js k, 0 ≤ x ∧ x ≤ k) ∧ (chain js k).Nodup ∧ (chain js k).length ≤ (k + 1).toNat := by
  refine link_ind hd ?_ ?_
  · rw [chain_neg js (by omega)]; simp
  · intro k j hj ⟨h1, h2, h3⟩
    have hp := hd k j hj
    rw [chain_step hd hj]
    refine ⟨fun x hx => ?_, ?_, ?_⟩
    · rcases List.mem_append.1 hx with hx | hx
      · have := h1 x hx; omega
      · simp only [List.mem_singleton] at hx; omega
    · rw [List.nodup_append]
      refine ⟨h2, by simp, fun x hx y hy => ?_⟩
      simp only [List.mem_singleton] at hy
      have := h1 x hx
      omega
    · rw [List.length_append]; simp; omega

/- carriers -/
def car (js : List Joint) (k : Int) : Int := (carriers js).getD (k + 1).toNat 0
theorem car_prefix (js : List Joint) (acc : List Int) : ∃ rest, js.foldl carStep acc = acc ++ rest := by
  induction js generalizing acc with
  | nil => exact ⟨[], by simp⟩
  | cons j js ih =>
    obtain ⟨rest, h⟩ := ih (carStep acc j)
    exact ⟨_, by rw [List.foldl_cons, h, carStep, List.append_assoc]⟩
theorem car_split (js : List Joint) (k : Nat) : ∃ rest, carriers js = carriers (js.take k) ++ rest := by
  obtain ⟨rest, h⟩ := car_prefix (js.drop k) (carriers (js.take k))
  refine ⟨rest, ?_⟩
  rw [← h, carriers, carriers, ← List.foldl_append, List.take_append_drop]
theorem car_world (js : List Joint) : car js (-1) = -1 := by
  obtain ⟨rest, h⟩ := car_split js 0
  rw [car, h]
  simp [carriers]
theorem car_step {js : List Joint} (hd : downOk js) {k : Nat} {j : Joint} (hj : js[k]? = some j) : car js k = if j.lo = j.hi then car js j.parent else k := by
  have hp := hd k j hj
  have hk : k < js.length := (List.getElem?_eq_some_iff.1 hj).1
  obtain ⟨r1, h1⟩ := car_split js (k + 1)
  have h2 := car_take hj
  have hl : (carriers (js.take k)).length = k + 1 := by rw [car_len, List.length_take]; omega
  rw [carStep, hl] at h2
  rw [h2] at h1
  have ha : (carriers js)[(k : Int).toNat + 1]? = some (if j.lo = j.hi then (carriers (js.take k)).getD (j.parent + 1).toNat 0 else ((k + 1 : Nat) : Int) - 1) := by
    rw [h1, List.append_assoc, List.getElem?_append_right (by omega)]
    simp [hl]
  have hb : (carriers js)[(j.parent + 1).toNat]? = (carriers (js.take k))[(j.parent + 1).toNat]? := by
    rw [h1, List.append_assoc, List.getElem?_append_left (by omega)]
  have hc : car js j.parent = (carriers (js.take k)).getD (j.parent + 1).toNat 0 := by
    rw [car, List.getD_eq_getElem?_getD, hb, List.getD_eq_getElem?_getD]
  rw [hc, car, List.getD_eq_getElem?_getD, show ((k : Int) + 1).toNat = (k : Int).toNat + 1 by omega, ha, Option.getD_some]
  split
  · rfl
  · omega
/-- the joint can move -/
def mov (js : List Joint) (x : Int) : Bool := match js[x.toNat]? with
  | some j => decide (j.lo ≠ j.hi)
  | none => false
theorem mov_at {js : List Joint} {k : Nat} {j : Joint} (hj : js[k]? = some j) : mov js k = decide (j.lo ≠ j.hi) := by
  rw [mov, Int.toNat_natCast, hj]
theorem car_chain {js : List Joint} (hd : downOk js) : ∀ (k : Int), -1 ≤ k → k < js.length →
    (∀ x, mov js x = true → (x ∈ chain js k ↔ x ∈ chain js (car js k))) ∧ (car js k = -1 ∨ (car js k ∈ chain js k ∧ mov js (car js k) = true)) ∧ (∀ x ∈ chain js k, mov js x = true → x ≤ car js k) := by
  refine link_ind hd ?_ ?_
  · rw [car_world]
    refine ⟨fun _ _ => Iff.rfl, .inl rfl, fun x hx => ?_⟩
    rw [chain_neg js (by omega)] at hx; cases hx
  · intro k j hj ⟨h1, h2, h3⟩
    rw [car_step hd hj]
    have hm := mov_at hj
    by_cases hs : j.lo = j.hi
    · rw [if_pos hs]
      have hm0 : mov js k = false := by rw [hm]; simp [hs]
      have hiff : ∀ x, mov js x = true → (x ∈ chain js k ↔ x ∈ chain js j.parent) := fun x hx => by
        rw [chain_step hd hj, List.mem_append, List.mem_singleton]
        constructor
        · rintro (h | h)
          · exact h
          · subst h; rw [hm0] at hx; cases hx
        · exact .inl
      refine ⟨fun x hx => (hiff x hx).trans (h1 x hx), ?_, fun x hx hmx => h3 x ((hiff x hmx).1 hx) hmx⟩
      rcases h2 with h2 | ⟨h2, h4⟩
      · exact .inl h2
      · exact .inr ⟨(hiff _ h4).2 h2, h4⟩
    · rw [if_neg hs]
      refine ⟨fun _ _ => Iff.rfl, .inr ⟨?_, by rw [hm]; simp [hs]⟩, fun x hx _ => ?_⟩
      · rw [chain_step hd hj]; simp
      · have hk : k < js.length := (List.getElem?_eq_some_iff.1 hj).1
        exact ((chain_in hd k (by omega) (by omega)).1 x hx).2
/-- the joints of exactly one of two chains -/
def btw (js : List Joint) (a b : Int) : List Nat := (List.range 10).filter fun i => decide ((chain js a).count (i : Int) + (chain js b).count (i : Int) = 1)
def rigid (js : List Joint) (a b : Int) : Bool := !(btw js a b).any fun i => mov js i
theorem count_in {l : List Int} (h : l.Nodup) (x : Int) : l.count x = if x ∈ l then 1 else 0 := by
  split
  · rename_i hx
    have h1 := List.nodup_iff_count.1 h x
    have h2 := List.count_pos_iff.2 hx
    omega
  · rename_i hx; exact List.count_eq_zero.2 hx
theorem rigid_iff {js : List Joint} (hl : js.length ≤ 10) (hd : downOk js) {a b : Int} (ha : -1 ≤ a) (ha' : a < js.length) (hb : -1 ≤ b) (hb' : b < js.length) : rigid js a b = decide (car js a = car js b) := by
  obtain ⟨a1, a2, _⟩ := chain_in hd a ha ha'
  obtain ⟨b1, b2, _⟩ := chain_in hd b hb hb'
  obtain ⟨a4, a5, a6⟩ := car_chain hd a ha ha'
  obtain ⟨b4, b5, b6⟩ := car_chain hd b hb hb'
  have key : rigid js a b = true ↔ ∀ x, mov js x = true → (x ∈ chain js a ↔ x ∈ chain js b) := by
    simp only [rigid, Bool.not_eq_true', List.any_eq_false, btw, List.mem_filter, List.mem_range, decide_eq_true_eq, and_imp]
    constructor
    · intro h x hx
      by_cases hxa : x ∈ chain js a
      · by_cases hxb : x ∈ chain js b
        · exact ⟨fun _ => hxb, fun _ => hxa⟩
        · have := a1 x hxa
          refine absurd hx ?_
          have := h x.toNat (by omega) (by rw [show ((x.toNat : Nat) : Int) = x by omega, count_in a2, count_in b2, if_pos hxa, if_neg hxb])
          rwa [show ((x.toNat : Nat) : Int) = x by omega] at this
      · by_cases hxb : x ∈ chain js b
        · have := b1 x hxb
          refine absurd hx ?_
          have := h x.toNat (by omega) (by rw [show ((x.toNat : Nat) : Int) = x by omega, count_in a2, count_in b2, if_neg hxa, if_pos hxb])
          rwa [show ((x.toNat : Nat) : Int) = x by omega] at this
        · exact ⟨fun h => absurd h hxa, fun h => absurd h hxb⟩
    · intro h i _ hc hm
      have := h i hm
      rw [count_in a2, count_in b2] at hc
      by_cases hxa : (i : Int) ∈ chain js a
      · rw [if_pos hxa, if_pos (this.1 hxa)] at hc; omega
      · rw [if_neg hxa, if_neg (fun h => hxa (this.2 h))] at hc; omega
  have key2 : (∀ x, mov js x = true → (x ∈ chain js a ↔ x ∈ chain js b)) ↔ car js a = car js b := by
    constructor
    · intro h
      rcases a5 with a5 | ⟨a5, a7⟩
      · rcases b5 with b5 | ⟨b5, b7⟩
        · rw [a5, b5]
        · have h1 := (h _ b7).2 b5
          have h2 := a6 _ h1 b7
          have h3 := a1 _ h1
          omega
      · have h1 := b6 _ ((h _ a7).1 a5) a7
        have h3 := a1 _ a5
        rcases b5 with b5 | ⟨b5, b7⟩
        · omega
        · have h2 := a6 _ ((h _ b7).2 b5) b7
          omega
    · intro h x hx
      rw [a4 x hx, b4 x hx, h]
  rw [Bool.eq_iff_iff, key, key2, decide_eq_true_eq]
end Go.Proofs.YthdbdokhncaijaaGreat

/- The reference's checks: joints, robots. -/
namespace Go.Proofs.YthdbdokhncaijaaGreat
open Eng
set_option maxRecDepth 10000
attribute [local irreducible] FnOk loopW idxF retX arrF

theorem ref_isLink (r : Robot) (k : Int) : FnOk Tryz.prog F.ref6_isLink [Ro r, I k] [] 0 (Bo (linkOk r.joints.length k)) [] 0 := by
  refine fnOk tab mix G.ref6_isLink rfl rfl (by kernel_rfl) rfl rfl ?_
  (conv => whnf)
  repeat' ((conv => whnf); first | refine ask_m (fun h => ?_) (fun h => ?_) | refine ret0 ?_)
  all_goals exact ret_b (by first | (simp_all [linkOk]; done) | (simp_all [linkOk]; omega)) rfl
def betw (x a b : Int) : Bool := decide (a ≤ x) && decide (x ≤ b)
theorem ref_between (x a b : Int) : FnOk Tryz.prog F.ref6_between [I x, I a, I b] [] 0 (Bo (betw x a b)) [] 0 := by
  refine fnOk tab mix G.ref6_between rfl rfl (by kernel_rfl) rfl rfl ?_
  (conv => whnf)
  repeat' ((conv => whnf); first | refine ask_m (fun h => ?_) (fun h => ?_) | refine ret0 ?_)
  all_goals exact ret_b (by first | (simp_all [betw]; done) | (simp_all [betw]; omega)) rfl
def inX (m x : Int) : Bool := decide (-m ≤ x) && decide (x ≤ m)
theorem ref_Near (v : Vec) (m : Int) (hm : 0 ≤ m) (hm2 : m ≤ 4611686018427387904) : FnOk Tryz.prog F.ref6_Near [Ve v, I m] [] 0 (Bo (inV v m)) [] 0 := by
  refine fnOk tab mix G.ref6_Near rfl rfl (by kernel_rfl) rfl rfl ?_
  (conv => whnf)
  have wn : IntKind.i64.wrap (0 - m) = -m := by rw [w64] <;> omega
  have e : inV v m = (inX m v.x && inX m v.y && inX m v.z) := rfl
  refine loop_intro (fun k : Nat => ⟨[(1, I m), (2, .one (.vptr 0 0)), (5, I k)], [(0, .vars Y.Vec [.dv (.int .i64 v.x), .dv (.int .i64 v.y), .dv (.int .i64 v.z)])], 1⟩) (fun k => k ≤ 3 ∧ (1 ≤ k → inX m v.x = true) ∧ (2 ≤ k → inX m v.y = true) ∧ (3 ≤ k → inX m v.z = true)) (fun k => 3 - k) [] 0 [] ⟨by decide, by omega, by omega, by omega⟩ ⟨⟨rfl, rfl, rfl, trivial⟩, ⟨rfl, trivial⟩⟩ ?_
  rintro k ⟨hk, k1, k2, k3⟩
  rcases (show k = 0 ∨ k = 1 ∨ k = 2 ∨ k = 3 by omega) with rfl | rfl | rfl | rfl
  · (conv => whnf)
    refine ⟨by decide, ?_⟩
    (conv => whnf)
    rw [wn]
    refine ask_m (fun h => ?_) (fun h => ?_)
    · have h := of_decide_eq_true h
      (conv => whnf)
      refine ret0 ?_
      exact ret_b (by rw [e]; simp [inX]; omega) rfl
    · have h := of_decide_eq_false h
      (conv => whnf)
      refine ⟨by decide, ?_⟩
      (conv => whnf)
      refine ask_m (fun h2 => ?_) (fun h2 => ?_)
      · have h2 := of_decide_eq_true h2
        (conv => whnf)
        refine ret0 ?_
        exact ret_b (by rw [e]; simp [inX]; omega) rfl
      · have h2 := of_decide_eq_false h2
        (conv => whnf)
        exact ⟨1, [], ⟨by decide, fun _ => by simp [inX]; omega, by omega, by omega⟩, by omega, ⟨⟨rfl, rfl, rfl, trivial⟩, ⟨rfl, trivial⟩⟩⟩
  · (conv => whnf)
    refine ⟨by decide, ?_⟩
    (conv => whnf)
    rw [wn]
    refine ask_m (fun h => ?_) (fun h => ?_)
    · have h := of_decide_eq_true h
      (conv => whnf)
      refine ret0 ?_
      exact ret_b (by rw [e]; simp [inX]; omega) rfl
    · have h := of_decide_eq_false h
      (conv => whnf)
      refine ⟨by decide, ?_⟩
      (conv => whnf)
      refine ask_m (fun h2 => ?_) (fun h2 => ?_)
      · have h2 := of_decide_eq_true h2
        (conv => whnf)
        refine ret0 ?_
        exact ret_b (by rw [e]; simp [inX]; omega) rfl
      · have h2 := of_decide_eq_false h2
        (conv => whnf)
        exact ⟨2, [], ⟨by decide, fun _ => k1 (by decide), fun _ => by simp [inX]; omega, by omega⟩, by omega, ⟨⟨rfl, rfl, rfl, trivial⟩, ⟨rfl, trivial⟩⟩⟩
  · (conv => whnf)
    refine ⟨by decide, ?_⟩
    (conv => whnf)
    rw [wn]
    refine ask_m (fun h => ?_) (fun h => ?_)
    · have h := of_decide_eq_true h
      (conv => whnf)
      refine ret0 ?_
      exact ret_b (by rw [e]; simp [inX]; omega) rfl
    · have h := of_decide_eq_false h
      (conv => whnf)
      refine ⟨by decide, ?_⟩
      (conv => whnf)
      refine ask_m (fun h2 => ?_) (fun h2 => ?_)
      · have h2 := of_decide_eq_true h2
        (conv => whnf)
        refine ret0 ?_
        exact ret_b (by rw [e]; simp [inX]; omega) rfl
      · have h2 := of_decide_eq_false h2
        (conv => whnf)
        exact ⟨3, [], ⟨by decide, fun _ => k1 (by decide), fun _ => k2 (by decide), fun _ => by simp [inX]; omega⟩, by omega, ⟨⟨rfl, rfl, rfl, trivial⟩, ⟨rfl, trivial⟩⟩⟩
  · (conv => whnf)
    refine ret0 ?_
    exact ret_b (by rw [e, k1 (by decide), k2 (by decide), k3 (by decide)]; rfl) rfl
def reachR (k : Int) : Int := if k = 0 then 0 else if k = 1 ∨ k = 2 ∨ k = 3 then 524288 else 4194304
theorem reachR_eq {k : Int} (h0 : 0 ≤ k) (h6 : k ≤ 6) : reachR k = reach k := by
  rcases (show k = 0 ∨ k = 1 ∨ k = 2 ∨ k = 3 ∨ k = 4 ∨ k = 5 ∨ k = 6 by omega) with rfl | rfl | rfl | rfl | rfl | rfl | rfl <;> decide
theorem ref_reach (k : Int) : FnOk Tryz.prog F.ref6_reach [I k] [] 0 (I (reachR k)) [] 0 := by
  refine fnOk tab mix G.ref6_reach rfl rfl (by kernel_rfl) rfl rfl ?_
  (conv => whnf)
  repeat' ((conv => whnf); first | refine ask_m (fun h => ?_) (fun h => ?_) | refine ret0 ?_)
  all_goals exact ret_i (by first | (simp_all [reachR]; done) | (simp_all [reachR]; omega)) rfl
theorem find_le : ∀ {js : List Joint} {k b : Nat} {x : Joint}, js[k]? = some x → (b : Int) ≤ find js x.name b ∧ find js x.name b ≤ ((b + k : Nat) : Int)
  | [], _, _, _, h => by simp at h
  | j :: js, 0, b, x, h => by
    simp at h; subst h
    rw [find, if_pos rfl]; omega
  | j :: js, k + 1, b, x, h => by
    rw [find]; split
    · omega
    · have := find_le (js := js) (k := k) (b := b + 1) (by simpa using h)
      omega
theorem ref_checkJoint (js : List Joint) (i : Nat) (j : Joint) (hj : js[i]? = some j) (hl : js.length ≤ 4611686018427387904) : FnOk Tryz.prog F.ref6_checkJoint [.one (.dv (dJs js)), I i] [] 0 (I (jointErr js i j)) [] 0 := by
  refine fnOk tab mix G.ref6_checkJoint rfl rfl (by kernel_rfl) rfl rfl ?_
  (conv => whnf)
  have hil : i < js.length := (List.getElem?_eq_some_iff.1 hj).1
  refine idx_and (by omega) (by simpa using hj) ?_
  (conv => whnf)
  refine call_i (ref_Name j.name) ?_
  (conv => whnf)
  refine ask_m (fun hn => ?_) (fun hn => ?_)
  · have hn : nameOk j.name = false := by simpa using hn
    (conv => whnf)
    refine ret0 ?_
    exact ret_i (by rw [jointErr, if_pos (.inl hn)]) rfl
  have hn : nameOk j.name = true := by simpa using hn
  (conv => whnf)
  refine loop_intro (fun k : Nat => ⟨[(0, .one (.dv (dJs js))), (1, I i), (5, .one (.vptr 0 0)), (6, I k)], [(0, .vars Y.Joint [.dv (.str j.name), .dv (.int .i64 j.kind), .dv (.int .i64 j.parent), .dv (.int .i64 j.off.x), .dv (.int .i64 j.off.y), .dv (.int .i64 j.off.z), .dv (.int .i64 j.lo), .dv (.int .i64 j.hi), .dv (.int .i64 j.weight), .dv (.int .i64 j.speed), .dv (.int .i64 j.accel), .dv (.int .i64 j.torque)])], 1⟩)
    (fun k => k ≤ i ∧ ∀ (a : Nat) (x : Joint), a < k → js[a]? = some x → x.name ≠ j.name) (fun k => i - k) [] 0 [] ⟨Nat.zero_le _, fun a x h => by omega⟩ ⟨⟨rfl, rfl, rfl, rfl, trivial⟩, ⟨rfl, trivial⟩⟩ ?_
  rintro k ⟨hk, hne⟩
  (conv => whnf)
  refine ask_m (fun h => ?_) (fun h => ?_)
  · have hlt : k < i := by have := of_decide_eq_true h; omega
    obtain ⟨x, hx⟩ : ∃ x, js[k]? = some x := ⟨_, List.getElem?_eq_getElem (by omega)⟩
    have hkk : IntKind.i64.wrap ((k : Int) + 1) = ((k + 1 : Nat) : Int) := by rw [w64] <;> omega
    (conv => whnf)
    refine idx_and (by omega) (by simpa using hx) ?_
    (conv => whnf)
    refine ask_m (fun he => ?_) (fun he => ?_)
    · have he : x.name = j.name := of_decide_eq_true he
      have hf := find_le (b := 0) hx
      rw [he] at hf
      (conv => whnf)
      refine ret0 ?_
      exact ret_i (by rw [jointErr, if_pos (.inr (by omega))]) rfl
    · have he : ¬ x.name = j.name := of_decide_eq_false he
      (conv => whnf)
      refine ⟨k + 1, [], ⟨hlt, fun a y ha hy => ?_⟩, by omega, ⟨⟨rfl, rfl, rfl, eqI hkk, trivial⟩, ⟨rfl, trivial⟩⟩⟩
      rcases Nat.lt_or_ge a k with h' | h'
      · exact hne a y h' hy
      · obtain rfl : a = k := by omega
        rw [hx] at hy; injection hy with hy; subst hy; exact he
  · have hki : k = i := by have := of_decide_eq_false h; omega
    subst hki
    have hf := find_at (k := 0) hj fun a x ha hx => hne a x ha hx
    have hE : jointErr js k j = if j.kind < 0 ∨ 6 < j.kind then 803
      else if j.parent < -1 ∨ (k : Int) ≤ j.parent then 804
      else if inV j.off 4194304 = false then 805
      else if j.hi < j.lo ∨ j.lo < - reach j.kind ∨ reach j.kind < j.hi then 806
      else if (from1 j.weight 1024 && from1 j.speed 1048576 && from1 j.accel 1048576 && from1 j.torque 1099511627776) = false then 807
      else 0 := by rw [jointErr, if_neg (by rw [hn, hf]; simp)]
    rw [hE]
    have hrr : ¬ (j.kind < 0 ∨ 6 < j.kind) → reachR j.kind = reach j.kind := fun h => reachR_eq (by omega) (by omega)
    have hrc := reach_cases j.kind
    have wr : IntKind.i64.wrap (0 - reach j.kind) = - reach j.kind := by rw [w64] <;> omega
    have fb : ∀ x m, betw x 1 m = from1 x m := fun _ _ => rfl
    clear h hE hne
    (conv => whnf)
    refine ask_m (fun h1 => ?_) (fun h1 => ?_)
    · have h1 := of_decide_eq_true h1
      rw [if_pos (.inl h1)]
      (conv => whnf)
      refine ret0 ?_
      exact ret_i rfl rfl
    have h1 := of_decide_eq_false h1
    (conv => whnf)
    refine ask_m (fun h2 => ?_) (fun h2 => ?_)
    · have h2 := of_decide_eq_true h2
      rw [if_pos (.inr h2)]
      (conv => whnf)
      refine ret0 ?_
      exact ret_i rfl rfl
    have h2 := of_decide_eq_false h2
    have h12 : ¬ (j.kind < 0 ∨ 6 < j.kind) := by omega
    rw [if_neg h12]
    (conv => whnf)
    refine ask_m (fun h3 => ?_) (fun h3 => ?_)
    · have h3 := of_decide_eq_true h3
      rw [if_pos (.inl h3)]
      (conv => whnf)
      refine ret0 ?_
      exact ret_i rfl rfl
    have h3 := of_decide_eq_false h3
    (conv => whnf)
    refine ask_m (fun h4 => ?_) (fun h4 => ?_)
    · have h4 := of_decide_eq_true h4
      rw [if_pos (.inr h4)]
      (conv => whnf)
      refine ret0 ?_
      exact ret_i rfl rfl
    have h4 := of_decide_eq_false h4
    rw [if_neg (by omega)]
    (conv => whnf)
    refine call_i (ref_Near j.off 4194304 (by decide) (by decide)) ?_
    (conv => whnf)
    refine ask_m (fun h5 => ?_) (fun h5 => ?_)
    · have h5 : inV j.off 4194304 = false := by simpa using h5
      rw [if_pos h5]
      (conv => whnf)
      refine ret0 ?_
      exact ret_i rfl rfl
    have h5 : inV j.off 4194304 = true := by simpa using h5
    rw [if_neg (by rw [h5]; simp)]
    (conv => whnf)
    refine call_i (ref_reach j.kind) ?_
    (conv => whnf)
    rw [hrr h12]
    refine ask_m (fun h6 => ?_) (fun h6 => ?_)
    · have h6 := of_decide_eq_true h6
      rw [if_pos (.inl h6)]
      (conv => whnf)
      refine ret0 ?_
      exact ret_i rfl rfl
    have h6 := of_decide_eq_false h6
    (conv => whnf)
    rw [wr]
    refine ask_m (fun h7 => ?_) (fun h7 => ?_)
    · have h7 := of_decide_eq_true h7
      rw [if_pos (.inr (.inl h7))]
      (conv => whnf)
      refine ret0 ?_
      exact ret_i rfl rfl
    have h7 := of_decide_eq_false h7
    (conv => whnf)
    refine ask_m (fun h8 => ?_) (fun h8 => ?_)
    · have h8 := of_decide_eq_true h8
      rw [if_pos (.inr (.inr h8))]
      (conv => whnf)
      refine ret0 ?_
      exact ret_i rfl rfl
    have h8 := of_decide_eq_false h8
    rw [if_neg (by omega)]
    (conv => whnf)
    refine call_i (ref_between j.weight 1 1024) ?_
    (conv => whnf)
    rw [fb]
    refine ask_m (fun h9 => ?_) (fun h9 => ?_)
    · have h9 : from1 j.weight 1024 = false := by simpa using h9
      rw [if_pos (by rw [h9]; simp)]
      (conv => whnf)
      refine ret0 ?_
      exact ret_i rfl rfl
    have h9 : from1 j.weight 1024 = true := by simpa using h9
    (conv => whnf)
    refine call_i (ref_between j.speed 1 1048576) ?_
    (conv => whnf)
    rw [fb]
    refine ask_m (fun h10 => ?_) (fun h10 => ?_)
    · have h10 : from1 j.speed 1048576 = false := by simpa using h10
      rw [if_pos (by rw [h10]; simp)]
      (conv => whnf)
      refine ret0 ?_
      exact ret_i rfl rfl
    have h10 : from1 j.speed 1048576 = true := by simpa using h10
    (conv => whnf)
    refine call_i (ref_between j.accel 1 1048576) ?_
    (conv => whnf)
    rw [fb]
    refine ask_m (fun h11 => ?_) (fun h11 => ?_)
    · have h11 : from1 j.accel 1048576 = false := by simpa using h11
      rw [if_pos (by rw [h11]; simp)]
      (conv => whnf)
      refine ret0 ?_
      exact ret_i rfl rfl
    have h11 : from1 j.accel 1048576 = true := by simpa using h11
    (conv => whnf)
    refine call_i (ref_between j.torque 1 1099511627776) ?_
    (conv => whnf)
    rw [fb]
    refine ask_m (fun h13 => ?_) (fun h13 => ?_)
    · have h13 : from1 j.torque 1099511627776 = false := by simpa using h13
      rw [if_pos (by rw [h13]; simp)]
      (conv => whnf)
      refine ret0 ?_
      exact ret_i rfl rfl
    have h13 : from1 j.torque 1099511627776 = true := by simpa using h13
    rw [h9, h10, h11, h13, if_neg (by simp)]
    (conv => whnf)
    refine ret0 ?_
    exact ret_i rfl rfl
end Go.Proofs.YthdbdokhncaijaaGreat

/- The reference's checks: robots, scenes. -/
namespace Go.Proofs.YthdbdokhncaijaaGreat
open Eng
set_option maxRecDepth 10000
attribute [local irreducible] FnOk loopW idxF retX arrF

theorem ref_CheckRobot (r : Robot) (hj : r.joints.length ≤ 4611686018427387904) (hm : r.masses.length ≤ 4611686018427387904) : FnOk Tryz.prog F.ref6_CheckRobot [Ro r] [] 0 (I (checkRobot r)) [] 0 := by
  refine fnOk tab mix G.ref6_CheckRobot rfl rfl (by kernel_rfl) rfl rfl ?_
  (conv => whnf)
  refine ask_m (fun h => ?_) (fun h => ?_)
  · have h : r.joints.length = 0 := by have := of_decide_eq_true h; simp only [List.length_map] at this; omega
    (conv => whnf)
    refine ret0 ?_
    exact ret_i (by unfold checkRobot; rw [if_pos (.inl h)]) rfl
  have h1 : ¬ r.joints.length = 0 := by have := of_decide_eq_false h; simp only [List.length_map] at this; omega
  (conv => whnf)
  refine ask_m (fun h => ?_) (fun h => ?_)
  · have h : 10 < r.joints.length := by have := of_decide_eq_true h; simp only [List.length_map] at this; omega
    (conv => whnf)
    refine ret0 ?_
    exact ret_i (by unfold checkRobot; rw [if_pos (.inr h)]) rfl
  have h2 : ¬ 10 < r.joints.length := by have := of_decide_eq_false h; simp only [List.length_map] at this; omega
  have e : checkRobot r = if jointsErr r.joints 0 r.joints ≠ 0 then jointsErr r.joints 0 r.joints
    else if 32 < r.masses.length ∨ r.masses.all (massOk r.joints.length) = false then 808 else 0 := by unfold checkRobot; rw [if_neg (by omega)]
  rw [e]
  (conv => whnf)
  refine loop_intro (fun k : Nat => ⟨[(1, .one (.vptr 0 0)), (3, I k)], [(0, bRo r)], 1⟩) (fun k => k ≤ r.joints.length ∧ jointsErr r.joints 0 r.joints = jointsErr r.joints k (r.joints.drop k)) (fun k => r.joints.length - k) [] 0 [] ⟨Nat.zero_le _, rfl⟩ ⟨⟨rfl, rfl, trivial⟩, ⟨rfl, trivial⟩⟩ ?_
  rintro k ⟨hk, hE⟩
  (conv => whnf)
  refine ask_m (fun h => ?_) (fun h => ?_)
  · have hlt : k < r.joints.length := by simp at h; omega
    obtain ⟨j, hj'⟩ : ∃ j, r.joints[k]? = some j := ⟨_, List.getElem?_eq_getElem hlt⟩
    have hkk : IntKind.i64.wrap ((k : Int) + 1) = ((k + 1 : Nat) : Int) := by rw [w64] <;> omega
    rw [drop_cons hj', jointsErr] at hE
    (conv => whnf)
    refine call_i (ref_checkJoint r.joints k j hj' hj) ?_
    (conv => whnf)
    refine ask_m (fun he => ?_) (fun he => ?_)
    · have he : ¬ jointErr r.joints k j = 0 := by simpa using he
      rw [if_neg he] at hE
      (conv => whnf)
      refine ret0 ?_
      exact ret_i (by rw [hE, if_pos he]) rfl
    · have he : jointErr r.joints k j = 0 := by simpa using he
      rw [if_pos he] at hE
      (conv => whnf)
      exact ⟨k + 1, [], ⟨hlt, hE⟩, by omega, ⟨⟨rfl, eqI hkk, trivial⟩, ⟨rfl, trivial⟩⟩⟩
  · have hk : k = r.joints.length := by simp at h; omega
    subst hk
    rw [List.drop_length, jointsErr] at hE
    rw [hE, if_neg (by simp)]
    (conv => whnf)
    refine ask_m (fun h3 => ?_) (fun h3 => ?_)
    · have h3 : 32 < r.masses.length := by have := of_decide_eq_true h3; simp only [List.length_map] at this; omega
      rw [if_pos (.inl h3)]
      (conv => whnf)
      refine ret0 ?_
      exact ret_i rfl rfl
    have h3 : ¬ 32 < r.masses.length := by have := of_decide_eq_false h3; simp only [List.length_map] at this; omega
    (conv => whnf)
    refine loop_intro (fun k : Nat => ⟨[(1, .one (.vptr 0 0)), (5, I k)], [(0, bRo r)], 1⟩) (fun k => k ≤ r.masses.length ∧ (r.masses.take k).all (massOk r.joints.length) = true) (fun k => r.masses.length - k) [] 0 [] ⟨Nat.zero_le _, rfl⟩ ⟨⟨rfl, rfl, trivial⟩, ⟨rfl, trivial⟩⟩ ?_
    rintro k ⟨hk, hall⟩
    (conv => whnf)
    refine ask_m (fun h4 => ?_) (fun h4 => ?_)
    · have hlt : k < r.masses.length := by simp at h4; omega
      obtain ⟨m, hm'⟩ : ∃ j, r.masses[k]? = some j := ⟨_, List.getElem?_eq_getElem hlt⟩
      have hkk : IntKind.i64.wrap ((k : Int) + 1) = ((k + 1 : Nat) : Int) := by rw [w64] <;> omega
      have bad : massOk r.joints.length m = false → (if 32 < r.masses.length ∨ r.masses.all (massOk r.joints.length) = false then (808 : Int) else 0) = 808 := fun h => by rw [if_pos (.inr (all_not hm' h))]
      have hM : massOk r.joints.length m = (decide (0 ≤ m.link) && decide (m.link < r.joints.length) && betw m.mass 1 65536 && inV m.point 4194304) := rfl
      (conv => whnf)
      refine idx_and (by omega) (by simpa using hm') ?_
      (conv => whnf)
      refine ask_m (fun a1 => ?_) (fun a1 => ?_)
      · have a1 := of_decide_eq_true a1
        rw [bad (by rw [hM, decide_eq_false (by omega)]; simp)]
        (conv => whnf)
        refine ret0 ?_
        exact ret_i rfl rfl
      have a1 := of_decide_eq_false a1
      (conv => whnf)
      rw [List.length_map]
      refine ask_m (fun a2 => ?_) (fun a2 => ?_)
      · have a2 := of_decide_eq_true a2
        rw [bad (by rw [hM, decide_eq_false (p := m.link < _) (by omega)]; simp)]
        (conv => whnf)
        refine ret0 ?_
        exact ret_i rfl rfl
      have a2 := of_decide_eq_false a2
      (conv => whnf)
      refine call_i (ref_between m.mass 1 65536) ?_
      (conv => whnf)
      refine ask_m (fun a3 => ?_) (fun a3 => ?_)
      · have a3 : betw m.mass 1 65536 = false := by simpa using a3
        rw [bad (by rw [hM, a3]; simp)]
        (conv => whnf)
        refine ret0 ?_
        exact ret_i rfl rfl
      have a3 : betw m.mass 1 65536 = true := by simpa using a3
      (conv => whnf)
      refine call_i (ref_Near m.point 4194304 (by decide) (by decide)) ?_
      (conv => whnf)
      refine ask_m (fun a4 => ?_) (fun a4 => ?_)
      · have a4 : inV m.point 4194304 = false := by simpa using a4
        rw [bad (by rw [hM, a4]; simp)]
        (conv => whnf)
        refine ret0 ?_
        exact ret_i rfl rfl
      have a4 : inV m.point 4194304 = true := by simpa using a4
      (conv => whnf)
      exact ⟨k + 1, [], ⟨hlt, all_take hall hm' (by rw [hM, a3, a4, decide_eq_true (by omega), decide_eq_true (p := m.link < _) (by omega)]; rfl)⟩, by omega, ⟨⟨rfl, eqI hkk, trivial⟩, ⟨rfl, trivial⟩⟩⟩
    · have hk : k = r.masses.length := by simp at h4; omega
      subst hk
      rw [List.take_length] at hall
      rw [hall, if_neg (by simp; omega)]
      (conv => whnf)
      refine ret0 ?_
      exact ret_i rfl rfl
theorem ref_CheckScene (s : Scene) (hs : small s) : FnOk Tryz.prog F.ref6_CheckScene [Sc s] [] 0 (I (checkScene s)) [] 0 := by
  refine fnOk tab mix G.ref6_CheckScene rfl rfl (by kernel_rfl) rfl rfl ?_
  (conv => whnf)
  obtain ⟨s1, s2, s3, s4, s5⟩ := hs
  refine call_i (ref_CheckRobot s.robot s1 s2) ?_
  (conv => whnf)
  refine ask_m (fun h => ?_) (fun h => ?_)
  · have h : ¬ checkRobot s.robot = 0 := by simpa using h
    (conv => whnf)
    refine ret0 ?_
    exact ret_i (by unfold checkScene; rw [if_pos h]) rfl
  have h0 : checkRobot s.robot = 0 := by simpa using h
  have e : checkScene s = if 24 < s.shapes.length then 901
    else if shapesErr s.robot.joints.length s.shapes ≠ 0 then shapesErr s.robot.joints.length s.shapes
    else if 64 < s.skips.length then 903
    else if (s.skips.all (skipOk s.robot.joints.length)) = false then 903
    else 0 := by unfold checkScene; rw [if_neg (by rw [h0]; simp)]; rfl
  rw [e]
  clear e
  (conv => whnf)
  refine ask_m (fun h1 => ?_) (fun h1 => ?_)
  · have h1 : 24 < s.shapes.length := by have := of_decide_eq_true h1; simp only [List.length_map] at this; omega
    rw [if_pos h1]
    (conv => whnf)
    refine ret0 ?_
    exact ret_i rfl rfl
  have h1 : ¬ 24 < s.shapes.length := by have := of_decide_eq_false h1; simp only [List.length_map] at this; omega
  rw [if_neg h1]
  (conv => whnf)
  refine loop_intro (fun k : Nat => ⟨[(1, .one (.vptr 0 0)), (4, I k)], [(0, bSc s)], 1⟩) (fun k => k ≤ s.shapes.length ∧ shapesErr s.robot.joints.length s.shapes = shapesErr s.robot.joints.length (s.shapes.drop k)) (fun k => s.shapes.length - k) [] 0 [] ⟨Nat.zero_le _, rfl⟩ ⟨⟨rfl, rfl, trivial⟩, ⟨rfl, trivial⟩⟩ ?_
  rintro k ⟨hk, hE⟩
  (conv => whnf)
  refine ask_m (fun h2 => ?_) (fun h2 => ?_)
  · have hlt : k < s.shapes.length := by simp at h2; omega
    obtain ⟨x, hx⟩ : ∃ j, s.shapes[k]? = some j := ⟨_, List.getElem?_eq_getElem hlt⟩
    have hkk : IntKind.i64.wrap ((k : Int) + 1) = ((k + 1 : Nat) : Int) := by rw [w64] <;> omega
    have hxp := s5 x (List.mem_of_getElem? hx)
    rw [drop_cons hx, shapesErr] at hE
    have e1 : (linkOk s.robot.joints.length x.link = false ∨ x.radius < 1 ∨ 1048576 < x.radius ∨ x.points.length < 1 ∨ 8 < x.points.length) → shapesErr s.robot.joints.length s.shapes = 902 := fun h => by
      have : shapeErr s.robot.joints.length x = 902 := by rw [shapeErr, if_pos h]
      rw [hE, this, if_neg (by decide)]
    have e2 : ¬ (linkOk s.robot.joints.length x.link = false ∨ x.radius < 1 ∨ 1048576 < x.radius ∨ x.points.length < 1 ∨ 8 < x.points.length) → x.points.all (inV · 4194304) = false → shapesErr s.robot.joints.length s.shapes = 805 := fun h h' => by
      have : shapeErr s.robot.joints.length x = 805 := by rw [shapeErr, if_neg h, if_pos h']
      rw [hE, this, if_neg (by decide)]
    have e3 : ¬ (linkOk s.robot.joints.length x.link = false ∨ x.radius < 1 ∨ 1048576 < x.radius ∨ x.points.length < 1 ∨ 8 < x.points.length) → x.points.all (inV · 4194304) = true → shapesErr s.robot.joints.length s.shapes = shapesErr s.robot.joints.length (s.shapes.drop (k + 1)) := fun h h' => by
      have : shapeErr s.robot.joints.length x = 0 := by rw [shapeErr, if_neg h, if_neg (by rw [h']; simp)]
      rw [hE, this, if_pos rfl]
    (conv => whnf)
    refine idx_and (by omega) (by simpa using hx) ?_
    (conv => whnf)
    refine call_i (ref_isLink s.robot x.link) ?_
    (conv => whnf)
    refine ask_m (fun a1 => ?_) (fun a1 => ?_)
    · have a1 : linkOk s.robot.joints.length x.link = false := by simpa using a1
      rw [e1 (.inl a1), if_pos (by decide)]
      (conv => whnf)
      refine ret0 ?_
      exact ret_i rfl rfl
    have a1 : linkOk s.robot.joints.length x.link = true := by simpa using a1
    (conv => whnf)
    refine call_i (ref_between x.radius 1 1048576) ?_
    (conv => whnf)
    refine ask_m (fun a2 => ?_) (fun a2 => ?_)
    · have a2 : betw x.radius 1 1048576 = false := by simpa using a2
      rw [e1 (by simp [betw] at a2; omega), if_pos (by decide)]
      (conv => whnf)
      refine ret0 ?_
      exact ret_i rfl rfl
    have a2 : betw x.radius 1 1048576 = true := by simpa using a2
    simp [betw] at a2
    (conv => whnf)
    refine ask_m (fun a3 => ?_) (fun a3 => ?_)
    · have a3 : x.points.length < 1 := by have := of_decide_eq_true a3; simp only [List.length_map] at this; omega
      rw [e1 (by omega), if_pos (by decide)]
      (conv => whnf)
      refine ret0 ?_
      exact ret_i rfl rfl
    have a3 : ¬ x.points.length < 1 := by have := of_decide_eq_false a3; simp only [List.length_map] at this; omega
    (conv => whnf)
    refine ask_m (fun a4 => ?_) (fun a4 => ?_)
    · have a4 : 8 < x.points.length := by have := of_decide_eq_true a4; simp only [List.length_map] at this; omega
      rw [e1 (by omega), if_pos (by decide)]
      (conv => whnf)
      refine ret0 ?_
      exact ret_i rfl rfl
    have a4 : ¬ 8 < x.points.length := by have := of_decide_eq_false a4; simp only [List.length_map] at this; omega
    have hno : ¬ (linkOk s.robot.joints.length x.link = false ∨ x.radius < 1 ∨ 1048576 < x.radius ∨ x.points.length < 1 ∨ 8 < x.points.length) := by rw [a1]; rintro (h | h | h | h | h) <;> first | contradiction | omega
    (conv => whnf)
    refine loop_intro (fun c : Nat => ⟨[(1, .one (.vptr 0 0)), (4, I k), (5, .one (.vptr 1 0)), (6, I c)], [(0, bSc s), (1, .vars Y.Shape [.dv (.int .i64 x.link), .dv (.int .i64 x.radius), .dv (dVs x.points)])], 2⟩) (fun c => c ≤ x.points.length ∧ (x.points.take c).all (inV · 4194304) = true) (fun c => x.points.length - c) [] 0 [] ⟨Nat.zero_le _, rfl⟩ ⟨⟨rfl, rfl, rfl, rfl, trivial⟩, ⟨rfl, rfl, trivial⟩⟩ ?_
    rintro c ⟨hc, hall⟩
    (conv => whnf)
    refine ask_m (fun a5 => ?_) (fun a5 => ?_)
    · have hcl : c < x.points.length := by simp at a5; omega
      obtain ⟨p, hp⟩ : ∃ j, x.points[c]? = some j := ⟨_, List.getElem?_eq_getElem hcl⟩
      have hcc : IntKind.i64.wrap ((c : Int) + 1) = ((c + 1 : Nat) : Int) := by rw [w64] <;> omega
      (conv => whnf)
      refine idx_and (by omega) (by simpa using hp) ?_
      (conv => whnf)
      refine call_i (ref_Near p 4194304 (by decide) (by decide)) ?_
      (conv => whnf)
      refine ask_m (fun a6 => ?_) (fun a6 => ?_)
      · have a6 : inV p 4194304 = false := by simpa using a6
        rw [e2 hno (all_not hp a6), if_pos (by decide)]
        (conv => whnf)
        refine ret0 ?_
        exact ret_i rfl rfl
      · have a6 : inV p 4194304 = true := by simpa using a6
        (conv => whnf)
        exact ⟨c + 1, [], ⟨hcl, all_take hall hp a6⟩, by omega, ⟨⟨rfl, rfl, rfl, eqI hcc, trivial⟩, ⟨rfl, rfl, trivial⟩⟩⟩
    · have hc : c = x.points.length := by simp at a5; omega
      subst hc
      rw [List.take_length] at hall
      (conv => whnf)
      exact ⟨k + 1, [], ⟨hlt, e3 hno hall⟩, by omega, ⟨⟨rfl, eqI hkk, trivial⟩, ⟨rfl, trivial⟩⟩⟩
  · have hk : k = s.shapes.length := by simp at h2; omega
    subst hk
    rw [List.drop_length, shapesErr] at hE
    rw [hE, if_neg (by simp)]
    (conv => whnf)
    refine ask_m (fun h3 => ?_) (fun h3 => ?_)
    · have h3 : 64 < s.skips.length := by have := of_decide_eq_true h3; simp only [List.length_map] at this; omega
      rw [if_pos h3]
      (conv => whnf)
      refine ret0 ?_
      exact ret_i rfl rfl
    have h3 : ¬ 64 < s.skips.length := by have := of_decide_eq_false h3; simp only [List.length_map] at this; omega
    rw [if_neg h3]
    (conv => whnf)
    refine loop_intro (fun k : Nat => ⟨[(1, .one (.vptr 0 0)), (7, I k)], [(0, bSc s)], 1⟩) (fun k => k ≤ s.skips.length ∧ (s.skips.take k).all (skipOk s.robot.joints.length) = true) (fun k => s.skips.length - k) [] 0 [] ⟨Nat.zero_le _, rfl⟩ ⟨⟨rfl, rfl, trivial⟩, ⟨rfl, trivial⟩⟩ ?_
    rintro k ⟨hk, hall⟩
    (conv => whnf)
    refine ask_m (fun h4 => ?_) (fun h4 => ?_)
    · have hlt : k < s.skips.length := by simp at h4; omega
      obtain ⟨m, hm'⟩ : ∃ j, s.skips[k]? = some j := ⟨_, List.getElem?_eq_getElem hlt⟩
      have hkk : IntKind.i64.wrap ((k : Int) + 1) = ((k + 1 : Nat) : Int) := by rw [w64] <;> omega
      (conv => whnf)
      refine idx_and (by omega) (by simpa using hm') ?_
      (conv => whnf)
      refine call_i (ref_isLink s.robot m.a) ?_
      (conv => whnf)
      refine ask_m (fun a1 => ?_) (fun a1 => ?_)
      · have a1 : linkOk s.robot.joints.length m.a = false := by simpa using a1
        rw [if_pos (all_not hm' (by simp [skipOk, a1]))]
        (conv => whnf)
        refine ret0 ?_
        exact ret_i rfl rfl
      have a1 : linkOk s.robot.joints.length m.a = true := by simpa using a1
      (conv => whnf)
      refine idx_and (by omega) (by simpa using hm') ?_
      (conv => whnf)
      refine call_i (ref_isLink s.robot m.b) ?_
      (conv => whnf)
      refine ask_m (fun a2 => ?_) (fun a2 => ?_)
      · have a2 : linkOk s.robot.joints.length m.b = false := by simpa using a2
        rw [if_pos (all_not hm' (by simp [skipOk, a2]))]
        (conv => whnf)
        refine ret0 ?_
        exact ret_i rfl rfl
      · have a2 : linkOk s.robot.joints.length m.b = true := by simpa using a2
        (conv => whnf)
        exact ⟨k + 1, [], ⟨hlt, all_take hall hm' (by simp [skipOk, a1, a2])⟩, by omega, ⟨⟨rfl, eqI hkk, trivial⟩, ⟨rfl, trivial⟩⟩⟩
    · have hk : k = s.skips.length := by simp at h4; omega
      subst hk
      rw [List.take_length] at hall
      rw [hall, if_neg (by simp)]
      (conv => whnf)
      refine ret0 ?_
      exact ret_i rfl rfl
end Go.Proofs.YthdbdokhncaijaaGreat

/- What valid robots and scenes are; rows. No program in sight. -/
namespace Go.Proofs.YthdbdokhncaijaaGreat
open Eng
set_option maxRecDepth 10000

theorem jat {js : List Joint} : ∀ {l : List Joint} {i k : Nat} {j : Joint}, jointsErr js i l = 0 → l[k]? = some j → jointErr js (i + k) j = 0
  | [], _, _, _, _, h => by simp at h
  | x :: l, i, k, j, h, hj => by
    rw [jointsErr] at h
    split at h
    · rename_i h0
      cases k with
      | zero => simp at hj; subst hj; exact h0
      | succ k =>
        have := jat (k := k) h (by simpa using hj)
        rw [← this]; congr 1; omega
    · contradiction
theorem robot_facts {r : Robot} (h : checkRobot r = 0) : r.joints.length ≤ 10 ∧ (∀ (k : Nat) (j : Joint), r.joints[k]? = some j → nameOk j.name = true ∧ bodyOk k j) ∧ r.masses.length ≤ 32 ∧ ∀ m ∈ r.masses, massOk r.joints.length m = true := by
  unfold checkRobot at h
  split at h
  · contradiction
  split at h
  · contradiction
  split at h
  · contradiction
  rename_i h1 h2 h3
  simp only [ne_eq, Decidable.not_not] at h2
  have h4 : r.masses.length ≤ 32 ∧ r.masses.all (massOk r.joints.length) = true := ⟨by omega, by
    cases hm : r.masses.all (massOk r.joints.length) with
    | true => rfl
    | false => exact absurd (.inr hm) h3⟩
  refine ⟨by omega, fun k j hj => ?_, h4.1, fun m hm => List.all_eq_true.1 h4.2 m hm⟩
  have := jat h2 hj
  rw [Nat.zero_add] at this
  obtain ⟨a, _, b⟩ := jointErr_inv this
  exact ⟨a, b⟩
theorem flat_take {α β : Type} (f : α → List β) {l : List α} {k : Nat} {x : α} (h : l[k]? = some x) : (l.take (k + 1)).flatMap f = (l.take k).flatMap f ++ f x := by
  rw [List.take_add_one, h, List.flatMap_append]; simp
theorem map_take1 {α β : Type} (f : α → β) {l : List α} {k : Nat} {x : α} (h : l[k]? = some x) : (l.take (k + 1)).map f = (l.take k).map f ++ [f x] := by
  rw [List.take_add_one, h, List.map_append]; rfl
theorem from1_bd {x m : Int} (h : from1 x m = true) : 1 ≤ x ∧ x ≤ m := by simpa [from1] using h
theorem rows_eq {t sz : Nat} {a b : List (List DV)} (h : a = b) : Box.rows t sz a = Box.rows t sz b := by rw [h]
theorem scene_facts {s : Scene} (h : checkScene s = 0) : checkRobot s.robot = 0 ∧ s.shapes.length ≤ 24 ∧ (∀ x ∈ s.shapes, linkOk s.robot.joints.length x.link = true ∧ 1 ≤ x.points.length ∧ x.points.length ≤ 8 ∧ (1 ≤ x.radius ∧ x.radius ≤ 1048576) ∧ ∀ p ∈ x.points, inV p 4194304 = true) ∧ s.skips.length ≤ 64 ∧ ∀ k ∈ s.skips, linkOk s.robot.joints.length k.a = true ∧ linkOk s.robot.joints.length k.b = true := by
  unfold checkScene at h
  split at h
  · contradiction
  split at h
  · contradiction
  split at h
  · contradiction
  split at h
  · contradiction
  split at h
  · contradiction
  rename_i h1 h2 h3 h4 h5
  simp only [ne_eq, Decidable.not_not] at h1 h3
  refine ⟨h1, by omega, fun x hx => ?_, by omega, fun k hk => ?_⟩
  · have : ∀ (l : List Shape), shapesErr s.robot.joints.length l = 0 → ∀ x ∈ l, shapeErr s.robot.joints.length x = 0 := by
      intro l
      induction l with
      | nil => intro _ x hx; cases hx
      | cons y l ih =>
        intro he x hx
        rw [shapesErr] at he
        split at he
        · rename_i h0
          rcases List.mem_cons.1 hx with rfl | hx
          · exact h0
          · exact ih he x hx
        · contradiction
    have hx := this s.shapes h3 x hx
    unfold shapeErr at hx
    split at hx
    · contradiction
    split at hx
    · contradiction
    rename_i q1 q2
    refine ⟨?_, by omega, by omega, by omega, fun p hp => ?_⟩
    · cases hl : linkOk s.robot.joints.length x.link with
      | true => rfl
      | false => exact absurd (.inl hl) q1
    · cases hq : x.points.all (inV · 4194304) with
      | true => exact List.all_eq_true.1 hq p hp
      | false => exact absurd hq q2
  · cases hq : s.skips.all fun k => linkOk s.robot.joints.length k.a && linkOk s.robot.joints.length k.b with
    | true => simpa using List.all_eq_true.1 hq k hk
    | false => exact absurd hq h5
theorem link_bd {n : Nat} {k : Int} (h : linkOk n k = true) : -1 ≤ k ∧ k < n := by simpa [linkOk] using h
end Go.Proofs.YthdbdokhncaijaaGreat

/- The reference's Chain, member, Between, Rigid. -/
namespace Go.Proofs.YthdbdokhncaijaaGreat
open Eng
set_option maxRecDepth 10000
attribute [local irreducible] FnOk loopW idxF retX arrF

def hasR (r : Robot) (ks : List Int) : Bool := ks.all (linkOk r.joints.length) && decide (checkRobot r = 0)
theorem hasR_good {r : Robot} {ks : List Int} (h : hasR r ks = true) : checkRobot r = 0 ∧ ∀ k ∈ ks, -1 ≤ k ∧ k < r.joints.length := by
  simp only [hasR, Bool.and_eq_true, List.all_eq_true, decide_eq_true_eq] at h
  exact ⟨h.2, fun k hk => link_bd (h.1 k hk)⟩
def chainR (r : Robot) (k : Int) : List Int := if hasR r [k] then chain r.joints k else []
theorem chain_len' {js : List Joint} (hd : downOk js) : ∀ k : Int, -1 ≤ k → k < js.length → ((chain js k).length : Int) ≤ k + 1 := by
  refine link_ind hd ?_ ?_
  · rw [chain_neg js (by decide)]; decide
  · intro k j hj ih
    obtain ⟨d1, d2⟩ := hd k j hj
    rw [chain_step hd hj, List.length_append, List.length_singleton]; omega
abbrev bIn (l : List Int) : Box := .rows Y.int 1 (l.map encI)
theorem ref_Chain (r : Robot) (k0 : Int) (hj : r.joints.length ≤ 4611686018427387904) (hm : r.masses.length ≤ 4611686018427387904) : FnOk Tryz.prog F.ref6_Chain [Ro r, I k0] [] 0 (.one (.row 0)) [(0, bIn (chainR r k0))] 1 := by
  refine fnOk tab mix G.ref6_Chain rfl rfl (by kernel_rfl) rfl rfl ?_
  (conv => whnf)
  refine call_i (ref_CheckRobot r hj hm) ?_
  (conv => whnf)
  refine ask_m (fun h1 => ?_) (fun h1 => ?_)
  · have h1 : ¬ checkRobot r = 0 := by simpa using h1
    have e : chainR r k0 = [] := by rw [chainR, hasR, decide_eq_false h1, Bool.and_false]; rfl
    rw [e]
    (conv => whnf)
    refine retO [.own 4 Y.int 1] ?_
    (conv => whnf)
    exact ⟨[(0, 1)], ⟨rfl, trivial⟩, ⟨rfl, trivial⟩⟩
  have h1 : checkRobot r = 0 := by simpa using h1
  obtain ⟨g1, g2, g3⟩ := robot_good h1
  (conv => whnf)
  refine call_i (ref_isLink r k0) ?_
  (conv => whnf)
  cases hk : linkOk r.joints.length k0 with
  | false =>
    have e : chainR r k0 = [] := by rw [chainR, hasR]; simp [hk]
    rw [e]
    (conv => whnf)
    (conv => whnf)
    refine retO [.own 4 Y.int 1] ?_
    (conv => whnf)
    exact ⟨[(0, 1)], ⟨rfl, trivial⟩, ⟨rfl, trivial⟩⟩
  | true =>
  have e : chainR r k0 = chain r.joints k0 := by rw [chainR, hasR]; simp [hk, h1]
  rw [e]
  have hk := link_bd hk
  (conv => whnf)
  refine loop_intro (fun p : Int × List Int => ⟨[(2, .one (.vptr 0 0)), (5, .one (.row 1)), (6, I p.1)], [(0, bRo r), (1, bIn p.2)], 2⟩) (fun p => -1 ≤ p.1 ∧ p.1 < r.joints.length ∧ p.2.length ≤ 100 - (p.1 + 1).toNat ∧ chain r.joints p.1 ++ p.2 = chain r.joints k0) (fun p => (p.1 + 1).toNat) [.own 5 Y.int 1] (k0, []) [] ⟨hk.1, hk.2, Nat.zero_le _, List.append_nil _⟩ ⟨⟨rfl, rfl, rfl, trivial⟩, ⟨rfl, rfl, trivial⟩⟩ ?_
  rintro ⟨k, xs⟩ ⟨hk1, hk2, hxl, hc⟩
  simp only at hk1 hk2 hxl hc
  (conv => whnf)
  refine ask_m (fun h => ?_) (fun h => ?_)
  · have h : ¬ k = -1 := by simpa using h
    obtain ⟨n, rfl⟩ : ∃ n : Nat, k = n := ⟨k.toNat, by omega⟩
    obtain ⟨j, hj'⟩ : ∃ j, r.joints[n]? = some j := ⟨_, List.getElem?_eq_getElem (by omega)⟩
    obtain ⟨d1, d2⟩ := g3 n j hj'
    rw [chain_step g3 hj', List.append_assoc] at hc
    (conv => whnf)
    refine ⟨⟨by simp; omega, by simp; omega⟩, ?_⟩
    (conv => whnf)
    refine idx_and (by omega) (by simpa using hj') ?_
    (conv => whnf)
    exact ⟨(j.parent, (n : Int) :: xs), [(1, 3)], ⟨d1, by simp only; omega, by simp only [List.length_cons]; omega, hc⟩, by simp only; omega, ⟨⟨rfl, rfl, rfl, trivial⟩, ⟨rfl, rfl, trivial⟩⟩⟩
  · have h : k = -1 := by simpa using h
    subst h
    rw [chain_neg _ (by decide), List.nil_append] at hc
    subst hc
    (conv => whnf)
    refine retO [] ?_
    (conv => whnf)
    exact ⟨[(0, 1)], ⟨rfl, trivial⟩, ⟨rfl, trivial⟩⟩
theorem ref_member (l : List Int) (x : Int) (hl : l.length ≤ 4611686018427387904) : FnOk Tryz.prog F.ref6_member [Li l, I x] [] 0 (Bo (decide (x ∈ l))) [] 0 := by
  refine fnOk tab mix G.ref6_member rfl rfl (by kernel_rfl) rfl rfl ?_
  (conv => whnf)
  refine loop_intro (fun k : Nat => ⟨[(0, Li l), (1, I x), (5, I k)], [], 0⟩) (fun k => k ≤ l.length ∧ x ∉ l.take k) (fun k => l.length - k) [] 0 [] ⟨Nat.zero_le _, by simp⟩ ⟨⟨rfl, rfl, rfl, trivial⟩, trivial⟩ ?_
  rintro k ⟨hk, hall⟩
  have hkk : IntKind.i64.wrap ((k : Int) + 1) = ((k + 1 : Nat) : Int) := by rw [w64] <;> omega
  (conv => whnf)
  refine ask_m (fun h => ?_) (fun h => ?_)
  · have hlt : k < l.length := by simpa using h
    obtain ⟨y, hy⟩ : ∃ y, l[k]? = some y := ⟨_, List.getElem?_eq_getElem hlt⟩
    (conv => whnf)
    refine idx_and (by omega) (by simpa using hy) ?_
    (conv => whnf)
    refine ask_m (fun he => ?_) (fun he => ?_)
    · have he : y = x := by simpa using he
      subst he
      (conv => whnf)
      refine ret0 ?_
      exact ret_b (by rw [decide_eq_true (List.mem_of_getElem? hy)]) rfl
    · have he : ¬ y = x := by simpa using he
      (conv => whnf)
      refine ⟨k + 1, [], ⟨hlt, ?_⟩, by omega, ⟨⟨rfl, rfl, eqI hkk, trivial⟩, trivial⟩⟩
      rw [List.take_add_one, hy]
      simp only [Option.toList_some, List.mem_append, List.mem_singleton, not_or]
      exact ⟨hall, fun e => he e.symm⟩
  · have hk : k = l.length := by simp at h; omega
    subst hk
    rw [List.take_length] at hall
    (conv => whnf)
    refine ret0 ?_
    exact ret_b (by rw [decide_eq_false hall]) rfl
def btwP (js : List Joint) (a b : Int) (i : Nat) : Bool := decide ((chain js a).count (i : Int) + (chain js b).count (i : Int) = 1)
theorem btwP_out {js : List Joint} (hd : downOk js) {a b : Int} (a1 : -1 ≤ a) (a2 : a < js.length) (b1 : -1 ≤ b) (b2 : b < js.length) {i : Nat} (hi : js.length ≤ i) : btwP js a b i = false := by
  have h1 : (i : Int) ∉ chain js a := fun h => by have := (chain_in hd a a1 a2).1 _ h; omega
  have h2 : (i : Int) ∉ chain js b := fun h => by have := (chain_in hd b b1 b2).1 _ h; omega
  rw [btwP, List.count_eq_zero.2 h1, List.count_eq_zero.2 h2]; rfl
theorem btwP_mem {js : List Joint} (hd : downOk js) {a b : Int} (a1 : -1 ≤ a) (a2 : a < js.length) (b1 : -1 ≤ b) (b2 : b < js.length) (i : Nat) : btwP js a b i = (decide ((i : Int) ∈ chain js a) != decide ((i : Int) ∈ chain js b)) := by
  rw [btwP, count_in (chain_in hd a a1 a2).2.1, count_in (chain_in hd b b1 b2).2.1]
  by_cases h1 : (i : Int) ∈ chain js a <;> by_cases h2 : (i : Int) ∈ chain js b <;> simp [h1, h2]
theorem filter_one (P : Nat → Bool) (x : Nat) : [x].filter P = if P x then [x] else [] := by cases h : P x <;> simp [h]
theorem filter_range {P : Nat → Bool} {n : Nat} (h : ∀ i, n ≤ i → P i = false) : ∀ d, (List.range (n + d)).filter P = (List.range n).filter P
  | 0 => rfl
  | d + 1 => by
    rw [← Nat.add_assoc, List.range_succ, List.filter_append, filter_range h d, filter_one, h _ (by omega)]; simp
theorem btw_eq {js : List Joint} (hl : js.length ≤ 10) (hd : downOk js) {a b : Int} (a1 : -1 ≤ a) (a2 : a < js.length) (b1 : -1 ≤ b) (b2 : b < js.length) : (List.range js.length).filter (btwP js a b) = btw js a b := by
  have := filter_range (P := btwP js a b) (n := js.length) (fun i hi => btwP_out hd a1 a2 b1 b2 hi) (10 - js.length)
  rw [show js.length + (10 - js.length) = 10 by omega] at this
  exact this.symm
def btwR (r : Robot) (a b : Int) : List Int := if hasR r [a, b] then (btw r.joints a b).map fun (i : Nat) => (i : Int) else []
theorem ref_Between (r : Robot) (a b : Int) (hj : r.joints.length ≤ 4611686018427387904) (hm : r.masses.length ≤ 4611686018427387904) : FnOk Tryz.prog F.ref6_Between [Ro r, I a, I b] [] 0 (.one (.row 0)) [(0, bIn (btwR r a b))] 1 := by
  refine fnOk tab mix G.ref6_Between rfl rfl (by kernel_rfl) rfl rfl ?_
  (conv => whnf)
  refine call_i (ref_CheckRobot r hj hm) ?_
  (conv => whnf)
  refine ask_m (fun h1 => ?_) (fun h1 => ?_)
  · have h1 : ¬ checkRobot r = 0 := by simpa using h1
    have e : btwR r a b = [] := by rw [btwR, hasR, decide_eq_false h1, Bool.and_false]; rfl
    rw [e]
    (conv => whnf)
    refine retO [.own 6 Y.int 1] ?_
    (conv => whnf)
    exact ⟨[(0, 1)], ⟨rfl, trivial⟩, ⟨rfl, trivial⟩⟩
  have h1 : checkRobot r = 0 := by simpa using h1
  obtain ⟨g1, g2, g3⟩ := robot_good h1
  (conv => whnf)
  refine call_i (ref_isLink r a) ?_
  (conv => whnf)
  cases ha : linkOk r.joints.length a with
  | false =>
    have e : btwR r a b = [] := by rw [btwR, hasR]; simp [ha]
    rw [e]
    (conv => whnf)
    (conv => whnf)
    refine retO [.own 6 Y.int 1] ?_
    (conv => whnf)
    exact ⟨[(0, 1)], ⟨rfl, trivial⟩, ⟨rfl, trivial⟩⟩
  | true =>
  (conv => whnf)
  refine call_i (ref_isLink r b) ?_
  (conv => whnf)
  cases hb : linkOk r.joints.length b with
  | false =>
    have e : btwR r a b = [] := by rw [btwR, hasR]; simp [hb]
    rw [e]
    (conv => whnf)
    (conv => whnf)
    refine retO [.own 6 Y.int 1] ?_
    (conv => whnf)
    exact ⟨[(0, 1)], ⟨rfl, trivial⟩, ⟨rfl, trivial⟩⟩
  | true =>
  have e : btwR r a b = (btw r.joints a b).map fun (i : Nat) => (i : Int) := by rw [btwR, hasR]; simp [ha, hb, h1]
  have ea : chainR r a = chain r.joints a := by rw [chainR, hasR]; simp [ha, h1]
  have eb : chainR r b = chain r.joints b := by rw [chainR, hasR]; simp [hb, h1]
  obtain ⟨a1, a2⟩ := link_bd ha
  obtain ⟨b1, b2⟩ := link_bd hb
  rw [e, ← btw_eq g1 g3 a1 a2 b1 b2]
  have hla := chain_len' g3 a a1 a2
  have hlb := chain_len' g3 b b1 b2
  (conv => whnf)
  refine call_i (ref_Chain r a hj hm) ?_
  (conv => whnf)
  refine call_i (ref_Chain r b hj hm) ?_
  (conv => whnf)
  rw [ea, eb]
  have hmem := btwP_mem g3 a1 a2 b1 b2
  generalize hP : btwP r.joints a b = P at *
  generalize chain r.joints a = ca at *
  generalize chain r.joints b = cb at *
  refine loop_intro (fun k : Nat => ⟨[(3, .one (.vptr 0 0)), (7, .one (.row 1)), (8, .one (.row 2)), (9, .one (.row 3)), (10, I k)], [(0, bRo r), (1, bIn ca), (2, bIn cb), (3, bIn (((List.range k).filter P).map fun (i : Nat) => (i : Int)))], 4⟩) (fun k => k ≤ r.joints.length) (fun k => r.joints.length - k) [.own 9 Y.int 1] 0 [] (Nat.zero_le _) ⟨⟨rfl, rfl, rfl, rfl, rfl, trivial⟩, ⟨rfl, rfl, rfl, rfl, trivial⟩⟩ ?_
  rintro k hk
  have hkk : IntKind.i64.wrap ((k : Int) + 1) = ((k + 1 : Nat) : Int) := by rw [w64] <;> omega
  have hfl : ((List.range k).filter P).length ≤ k := by
    have := List.length_filter_le P (List.range k)
    rw [List.length_range] at this; exact this
  (conv => whnf)
  refine ask_m (fun h => ?_) (fun h => ?_)
  · have hlt : k < r.joints.length := by simpa using h
    have hnx : (List.range (k + 1)).filter P = (List.range k).filter P ++ if P k then [k] else [] := by
      rw [List.range_succ, List.filter_append, filter_one]
    (conv => whnf)
    refine call_i (ref_member ca k (by omega)) ?_
    (conv => whnf)
    refine ⟨⟨trivial, trivial⟩, ?_⟩
    (conv => whnf)
    refine call_i (ref_member cb k (by omega)) ?_
    (conv => whnf)
    refine ⟨⟨trivial, trivial⟩, ?_⟩
    (conv => whnf)
    rw [hmem k] at hnx
    refine ask_m (fun hne => ?_) (fun hne => ?_)
    · have hne : (decide ((k : Int) ∈ ca) != decide ((k : Int) ∈ cb)) = true := by simpa [bne] using hne
      rw [hne, if_pos rfl] at hnx
      (conv => whnf)
      refine ⟨⟨by simp; omega, by simp; omega⟩, ?_⟩
      (conv => whnf)
      exact ⟨k + 1, [(3, 5)], hlt, by omega, ⟨⟨rfl, rfl, rfl, rfl, eqI hkk, trivial⟩, ⟨rfl, rfl, rfl, rows_eq (by rw [hnx, List.map_append, List.map_append]; rfl), trivial⟩⟩⟩
    · have hne : (decide ((k : Int) ∈ ca) != decide ((k : Int) ∈ cb)) = false := by simpa [bne] using hne
      rw [hne, if_neg (by decide), List.append_nil] at hnx
      (conv => whnf)
      exact ⟨k + 1, [], hlt, by omega, ⟨⟨rfl, rfl, rfl, rfl, eqI hkk, trivial⟩, ⟨rfl, rfl, rfl, rows_eq (by rw [hnx]), trivial⟩⟩⟩
  · have hk : k = r.joints.length := by simp at h; omega
    subst hk
    (conv => whnf)
    refine retO [] ?_
    (conv => whnf)
    exact ⟨[(0, 3)], ⟨rfl, trivial⟩, ⟨rfl, trivial⟩⟩
def rigidR (r : Robot) (a b : Int) : Bool := hasR r [a, b] && rigid r.joints a b
theorem lo_hi {r : Robot} (h : checkRobot r = 0) {k : Nat} {j : Joint} (hj : r.joints[k]? = some j) : j.lo ≤ j.hi := ((robot_facts h).2.1 k j hj).2.2.2.2.1.1
theorem ref_Rigid (r : Robot) (a b : Int) (hj : r.joints.length ≤ 4611686018427387904) (hm : r.masses.length ≤ 4611686018427387904) : FnOk Tryz.prog F.ref6_Rigid [Ro r, I a, I b] [] 0 (Bo (rigidR r a b)) [] 0 := by
  refine fnOk tab mix G.ref6_Rigid rfl rfl (by kernel_rfl) rfl rfl ?_
  (conv => whnf)
  refine call_i (ref_CheckRobot r hj hm) ?_
  (conv => whnf)
  refine ask_m (fun h1 => ?_) (fun h1 => ?_)
  · have h1 : ¬ checkRobot r = 0 := by simpa using h1
    (conv => whnf)
    refine ret0 ?_
    exact ret_b (by rw [rigidR, hasR, decide_eq_false h1, Bool.and_false, Bool.false_and]) rfl
  have h1 : checkRobot r = 0 := by simpa using h1
  obtain ⟨g1, g2, g3⟩ := robot_good h1
  (conv => whnf)
  refine call_i (ref_isLink r a) ?_
  (conv => whnf)
  cases ha : linkOk r.joints.length a with
  | false =>
    (conv => whnf)
    (conv => whnf)
    refine ret0 ?_
    exact ret_b (by rw [rigidR, hasR]; simp [ha]) rfl
  | true =>
  (conv => whnf)
  refine call_i (ref_isLink r b) ?_
  (conv => whnf)
  cases hb : linkOk r.joints.length b with
  | false =>
    (conv => whnf)
    (conv => whnf)
    refine ret0 ?_
    exact ret_b (by rw [rigidR, hasR]; simp [hb]) rfl
  | true =>
  have hh : hasR r [a, b] = true := by rw [hasR]; simp [ha, hb, h1]
  have e : btwR r a b = (btw r.joints a b).map fun (i : Nat) => (i : Int) := by rw [btwR, hh]; rfl
  obtain ⟨a1, a2⟩ := link_bd ha
  obtain ⟨b1, b2⟩ := link_bd hb
  have hbt : ∀ x ∈ btw r.joints a b, x < r.joints.length := by
    intro x hx
    rw [← btw_eq g1 g3 a1 a2 b1 b2] at hx
    exact List.mem_range.1 (List.mem_filter.1 hx).1
  have hbl : (btw r.joints a b).length ≤ 10 := by
    have := List.length_filter_le (btwP r.joints a b) (List.range 10)
    rw [List.length_range] at this
    exact this
  (conv => whnf)
  refine call_i (ref_Between r a b hj hm) ?_
  (conv => whnf)
  rw [e, rigidR, hh, Bool.true_and, rigid]
  generalize btw r.joints a b = bs at *
  refine loop_intro (fun k : Nat => ⟨[(3, .one (.vptr 0 0)), (7, .one (.row 1)), (8, I k)], [(0, bRo r), (1, bIn (bs.map fun (i : Nat) => (i : Int)))], 2⟩) (fun k => k ≤ bs.length ∧ (bs.take k).any (fun i => mov r.joints i) = false) (fun k => bs.length - k) [] 0 [] ⟨Nat.zero_le _, rfl⟩ ⟨⟨rfl, rfl, rfl, trivial⟩, ⟨rfl, rfl, trivial⟩⟩ ?_
  rintro k ⟨hk, hall⟩
  have hkk : IntKind.i64.wrap ((k : Int) + 1) = ((k + 1 : Nat) : Int) := by rw [w64] <;> omega
  (conv => whnf)
  refine ask_m (fun h => ?_) (fun h => ?_)
  · have hlt : k < bs.length := by simpa using h
    obtain ⟨i, hi⟩ : ∃ i, bs[k]? = some i := ⟨_, List.getElem?_eq_getElem hlt⟩
    have him := hbt i (List.mem_of_getElem? hi)
    obtain ⟨j, hj'⟩ : ∃ j, r.joints[i]? = some j := ⟨_, List.getElem?_eq_getElem him⟩
    have hmv := mov_at hj'
    have hlh := lo_hi h1 hj'
    have hik : (bs.map fun (i : Nat) => (i : Int))[k]? = some (i : Int) := by rw [List.getElem?_map, hi]; rfl
    (conv => whnf)
    refine ⟨⟨by omega, by simp; omega⟩, ?_⟩
    (conv => whnf)
    refine idx_map (by rw [Int.toNat_natCast]; exact hik) ?_
    (conv => whnf)
    refine idx_and (by omega) (by simpa using hj') ?_
    (conv => whnf)
    refine ⟨⟨by omega, by simp; omega⟩, ?_⟩
    (conv => whnf)
    refine idx_map (by rw [Int.toNat_natCast]; exact hik) ?_
    (conv => whnf)
    refine idx_and (by omega) (by simpa using hj') ?_
    (conv => whnf)
    refine ask_m (fun he => ?_) (fun he => ?_)
    · have he : j.lo < j.hi := of_decide_eq_true he
      rw [decide_eq_true (by omega)] at hmv
      (conv => whnf)
      refine ret0 ?_
      exact ret_b (by rw [any_yes hi hmv]; rfl) rfl
    · have he : ¬ j.lo < j.hi := of_decide_eq_false he
      rw [decide_eq_false (by omega)] at hmv
      (conv => whnf)
      exact ⟨k + 1, [], ⟨hlt, any_take hall hi hmv⟩, by omega, ⟨⟨rfl, rfl, eqI hkk, trivial⟩, ⟨rfl, rfl, trivial⟩⟩⟩
  · have hk : k = bs.length := by simp at h; omega
    subst hk
    rw [List.take_length] at hall
    (conv => whnf)
    refine ret0 ?_
    exact ret_b (by rw [hall]; rfl) rfl
end Go.Proofs.YthdbdokhncaijaaGreat

/- ref.Skipped, ref.Pairs. -/
namespace Go.Proofs.YthdbdokhncaijaaGreat
open Eng
set_option maxRecDepth 10000
attribute [local irreducible] FnOk loopW idxF retX arrF

theorem ref_Skipped (s : Scene) (a b : Int) (hs : s.skips.length ≤ 4611686018427387904) : FnOk Tryz.prog F.ref6_Skipped [Sc s, I a, I b] [] 0 (Bo (skipped s a b)) [] 0 := by
  refine fnOk tab mix G.ref6_Skipped rfl rfl (by kernel_rfl) rfl rfl ?_
  (conv => whnf)
  refine loop_intro (fun k : Nat => ⟨[(1, I a), (2, I b), (3, .one (.vptr 0 0)), (7, I k)], [(0, bSc s)], 1⟩) (fun k => k ≤ s.skips.length ∧ (s.skips.take k).any (isSkip a b) = false) (fun k => s.skips.length - k) [] 0 [] ⟨Nat.zero_le _, rfl⟩ ⟨⟨rfl, rfl, rfl, rfl, trivial⟩, ⟨rfl, trivial⟩⟩ ?_
  rintro k ⟨hk, hall⟩
  have hkk : IntKind.i64.wrap ((k : Int) + 1) = ((k + 1 : Nat) : Int) := by rw [w64] <;> omega
  (conv => whnf)
  refine ask_m (fun hlt => ?_) (fun hlt => ?_)
  · have hlt : k < s.skips.length := by simpa using hlt
    obtain ⟨x, hx⟩ : ∃ j, s.skips[k]? = some j := ⟨_, List.getElem?_eq_getElem hlt⟩
    have yes : isSkip a b x = true → true = s.skips.any (isSkip a b) := fun h => (any_yes hx h).symm
    (conv => whnf)
    refine idx_and (by omega) (by simpa using hx) ?_
    (conv => whnf)
    generalize h1 : (x.a == a) = c1
    cases c1 with
    | true =>
      have h1 : x.a = a := by simpa using h1
      (conv => whnf)
      generalize h2 : (x.b == b) = c2
      cases c2 with
      | true =>
        have h2 : x.b = b := by simpa using h2
        (conv => whnf)
        (conv => whnf)
        refine ret0 ?_
        exact ret_b (yes (by simp [isSkip, h1, h2])) rfl
      | false =>
        have h2 : ¬ x.b = b := by simpa using h2
        (conv => whnf)
        generalize h3 : (x.a == b) = c3
        cases c3 with
        | true =>
          have h3 : x.a = b := by simpa using h3
          (conv => whnf)
          refine ask_m (fun h4 => ?_) (fun h4 => ?_)
          · have h4 : x.b = a := by simpa using h4
            (conv => whnf)
            refine ret0 ?_
            exact ret_b (yes (by simp [isSkip, h3, h4])) rfl
          · have h4 : ¬ x.b = a := by simpa using h4
            (conv => whnf)
            exact ⟨k + 1, [], ⟨hlt, any_take hall hx (by simp [isSkip, h2, h4])⟩, by omega, ⟨⟨rfl, rfl, rfl, eqI hkk, trivial⟩, ⟨rfl, trivial⟩⟩⟩
        | false =>
          have h3 : ¬ x.a = b := by simpa using h3
          (conv => whnf)
          exact ⟨k + 1, [], ⟨hlt, any_take hall hx (by simp [isSkip, h2, h3])⟩, by omega, ⟨⟨rfl, rfl, rfl, eqI hkk, trivial⟩, ⟨rfl, trivial⟩⟩⟩
    | false =>
      have h1 : ¬ x.a = a := by simpa using h1
      (conv => whnf)
      generalize h3 : (x.a == b) = c3
      cases c3 with
      | true =>
        have h3 : x.a = b := by simpa using h3
        (conv => whnf)
        refine ask_m (fun h4 => ?_) (fun h4 => ?_)
        · have h4 : x.b = a := by simpa using h4
          (conv => whnf)
          refine ret0 ?_
          exact ret_b (yes (by simp [isSkip, h3, h4])) rfl
        · have h4 : ¬ x.b = a := by simpa using h4
          (conv => whnf)
          exact ⟨k + 1, [], ⟨hlt, any_take hall hx (by simp [isSkip, h1, h4])⟩, by omega, ⟨⟨rfl, rfl, rfl, eqI hkk, trivial⟩, ⟨rfl, trivial⟩⟩⟩
      | false =>
        have h3 : ¬ x.a = b := by simpa using h3
        (conv => whnf)
        exact ⟨k + 1, [], ⟨hlt, any_take hall hx (by simp [isSkip, h1, h3])⟩, by omega, ⟨⟨rfl, rfl, rfl, eqI hkk, trivial⟩, ⟨rfl, trivial⟩⟩⟩
  · have hk : k = s.skips.length := by simp at hlt; omega
    subst hk
    rw [List.take_length] at hall
    (conv => whnf)
    refine ret0 ?_
    exact ret_b hall.symm rfl
theorem rigid_car {r : Robot} (h : checkRobot r = 0) {a b : Int} (a1 : -1 ≤ a) (a2 : a < r.joints.length) (b1 : -1 ≤ b) (b2 : b < r.joints.length) : rigidR r a b = decide (car r.joints a = car r.joints b) := by
  obtain ⟨g1, _, g3⟩ := robot_good h
  rw [rigidR, rigid_iff g1 g3 a1 a2 b1 b2]
  have : hasR r [a, b] = true := by simp [hasR, h, linkOk, a1, a2, b1, b2]
  rw [this, Bool.true_and]
theorem carr_car (s : Scene) (k : Int) : carr s k = car s.robot.joints k := rfl
theorem ref_Pairs (s : Scene) (hs : small s) : FnOk Tryz.prog F.ref6_Pairs [Sc s] [] 0 (.one (.row 0)) [(0, bPa (pairs s))] 1 := by
  refine fnOk tab mix G.ref6_Pairs rfl rfl (by kernel_rfl) rfl rfl ?_
  (conv => whnf)
  refine call_i (ref_CheckScene s hs) ?_
  (conv => whnf)
  refine ask_m (fun h => ?_) (fun h => ?_)
  · have h : ¬ checkScene s = 0 := by simpa using h
    have e : pairs s = [] := by unfold pairs; rw [if_neg h]
    rw [e]
    (conv => whnf)
    refine retO [.own 2 Y.Pair 2] ?_
    (conv => whnf)
    exact ⟨[(0, 1)], ⟨rfl, trivial⟩, ⟨rfl, trivial⟩⟩
  have h0 : checkScene s = 0 := by simpa using h
  obtain ⟨g1, g2, g3, g4⟩ := scene_good h0
  obtain ⟨f1, _, f3, _⟩ := robot_facts g1
  have e : pairs s = pairsTo s s.shapes.length := by unfold pairs; rw [if_pos h0]
  rw [e]
  (conv => whnf)
  refine loop_intro (fun k : Nat => ⟨[(1, .one (.vptr 0 0)), (3, .one (.row 1)), (4, I k)], [(0, bSc s), (1, bPa (pairsTo s k))], 2⟩) (fun k => k ≤ s.shapes.length) (fun k => s.shapes.length - k) [.own 3 Y.Pair 2] 0 [] (Nat.zero_le _) ⟨⟨rfl, rfl, rfl, trivial⟩, ⟨rfl, rfl, trivial⟩⟩ ?_
  rintro k hk
  have hkk : IntKind.i64.wrap ((k : Int) + 1) = ((k + 1 : Nat) : Int) := by rw [w64] <;> omega
  (conv => whnf)
  refine ask_m (fun h => ?_) (fun h => ?_)
  · have hlt : k < s.shapes.length := by simpa using h
    obtain ⟨x, hx⟩ : ∃ j, s.shapes[k]? = some j := ⟨_, List.getElem?_eq_getElem hlt⟩
    obtain ⟨x1, x2⟩ := g3 x (List.mem_of_getElem? hx)
    (conv => whnf)
    refine loop_intro (fun j : Nat => ⟨[(1, .one (.vptr 0 0)), (3, .one (.row 1)), (4, I k), (5, I j)], [(0, bSc s), (1, bPa (pairsTo s k ++ pairRow s k j))], 2⟩) (fun j => k < j ∧ j ≤ s.shapes.length) (fun j => s.shapes.length - j) [] (k + 1) [] ⟨by omega, by omega⟩ ⟨⟨rfl, rfl, rfl, eqI hkk, trivial⟩, ⟨rfl, ?_, trivial⟩⟩ ?_
    · show bPa _ = bPa _
      rw [pairRow_self, List.append_nil]
    rintro j ⟨hj1, hj2⟩
    have hjj : IntKind.i64.wrap ((j : Int) + 1) = ((j + 1 : Nat) : Int) := by rw [w64] <;> omega
    (conv => whnf)
    refine ask_m (fun h => ?_) (fun h => ?_)
    · have hlj : j < s.shapes.length := by simpa using h
      obtain ⟨y, hy⟩ : ∃ y, s.shapes[j]? = some y := ⟨_, List.getElem?_eq_getElem hlj⟩
      obtain ⟨y1, y2⟩ := g3 y (List.mem_of_getElem? hy)
      have hw : wantAt s k j = wanted s x y := by simp [wantAt, hx, hy, hj1]
      have hjl := pairsTo_len s k
      have hjr := pairRow_len s k j
      have hbig : (pairsTo s k ++ pairRow s k j).length ≤ 1000 := by
        rw [List.length_append]
        have := Nat.mul_le_mul (show k ≤ 24 by omega) g2
        omega
      have stay : wantAt s k j = false → pairRow s k (j + 1) = pairRow s k j := fun hwf => by rw [pairRow_succ, hwf]; simp
      (conv => whnf)
      refine idx_and (by omega) (by simpa using hx) ?_
      (conv => whnf)
      refine idx_and (by omega) (by simpa using hy) ?_
      (conv => whnf)
      generalize hne : (x.link != y.link) = c1
      cases c1 with
      | false =>
        have hne : x.link = y.link := by simpa using hne
        have e2 := stay (by rw [hw, wanted, hne]; simp)
        (conv => whnf)
        exact ⟨j + 1, [], ⟨by omega, by omega⟩, by omega, ⟨⟨rfl, rfl, rfl, eqI hjj, trivial⟩, ⟨rfl, rows_eq (by rw [e2]), trivial⟩⟩⟩
      | true =>
      have hne : ¬ x.link = y.link := by simpa using hne
      (conv => whnf)
      refine call_i (ref_Rigid s.robot x.link y.link (by omega) (by omega)) ?_
      (conv => whnf)
      rw [rigid_car g1 x1 x2 y1 y2]
      cases hr : decide (car s.robot.joints x.link = car s.robot.joints y.link) with
      | true =>
        have hr := of_decide_eq_true hr
        have e2 := stay (by rw [hw, wanted, carr_car, carr_car, hr]; simp)
        (conv => whnf)
        exact ⟨j + 1, [], ⟨by omega, by omega⟩, by omega, ⟨⟨rfl, rfl, rfl, eqI hjj, trivial⟩, ⟨rfl, rows_eq (by rw [e2]), trivial⟩⟩⟩
      | false =>
      have hr := of_decide_eq_false hr
      (conv => whnf)
      refine call_i (ref_Skipped s x.link y.link (by omega)) ?_
      (conv => whnf)
      generalize hb2 : skipped s x.link y.link = b2
      have hwf : wantAt s k j = !b2 := by rw [hw, wanted, hb2, carr_car, carr_car]; simp [hr]
      cases b2 with
      | false =>
        have e2 : pairRow s k (j + 1) = pairRow s k j ++ [⟨(k : Int), (j : Int)⟩] := by rw [pairRow_succ, hwf]; rfl
        rw [List.length_append] at hbig
        (conv => whnf)
        refine ⟨⟨by simp; omega, by simp; omega⟩, ?_⟩
        (conv => whnf)
        exact ⟨j + 1, [(1, 3)], ⟨by omega, by omega⟩, by omega, ⟨⟨rfl, rfl, rfl, eqI hjj, trivial⟩, ⟨rfl, rows_eq (by rw [e2, ← List.append_assoc, List.map_append (l₁ := pairsTo s k ++ pairRow s k j)]; rfl), trivial⟩⟩⟩
      | true =>
        have e2 := stay hwf
        (conv => whnf)
        exact ⟨j + 1, [], ⟨by omega, by omega⟩, by omega, ⟨⟨rfl, rfl, rfl, eqI hjj, trivial⟩, ⟨rfl, rows_eq (by rw [e2]), trivial⟩⟩⟩
    · have hj : j = s.shapes.length := by simp at h; omega
      subst hj
      (conv => whnf)
      exact ⟨k + 1, [], hlt, by omega, ⟨⟨rfl, rfl, eqI hkk, trivial⟩, ⟨rfl, rows_eq (by rw [pairsTo_succ]), trivial⟩⟩⟩
  · have hk : k = s.shapes.length := by simp at h; omega
    subst hk
    (conv => whnf)
    refine ret0 ?_
    exact ⟨[(0, 1)], ⟨rfl, trivial⟩, ⟨rfl, trivial⟩⟩
end Go.Proofs.YthdbdokhncaijaaGreat

/- Common ground: sources; data of the parameters' types. -/
namespace Go.Proofs.YthdbdokhncaijaaGreat
open Eng
set_option maxRecDepth 10000
attribute [local irreducible] FnOk loopW idxF retX arrF

theorem mk_Round (x m : Int) (hm : 0 < m) (hm2 : m ≤ 4611686018427387904) : FnOk Tryz.prog F.mk_Round [I x, I m] [] 0 (I (x % m)) [] 0 := by
  refine fnOk tab mix G.mk_Round rfl rfl (by kernel_rfl) rfl rfl ?_
  obtain ⟨h1, h2, h3, h4⟩ := tmod_pos (x := x) hm
  (conv => whnf)
  refine ⟨by omega, ?_⟩
  repeat' ((conv => whnf); first | refine ask_m (fun h => ?_) (fun h => ?_) | refine ret0 ?_)
  all_goals (conv => whnf)
  · have h : x.tmod m < 0 := by simpa using h
    exact ret_i (by rw [w64 (by omega) (by omega)]; exact h1 h) rfl
  · have h : ¬ x.tmod m < 0 := by simpa using h
    exact ret_i (h2 (by omega)) rfl

/- sources -/
abbrev Src (xs : List Int) (k : Nat) : Box := .vars Y.mk_Source [.dv (.lst 1 (xs.map encI)), .dv (.int .i64 k)]
def nxt (xs : List Int) (k : Nat) (m : Int) : Int := match xs[k]? with
  | some x => x % m
  | none => 0
def adv (xs : List Int) (k : Nat) : Nat := if k < xs.length then k + 1 else k
theorem nxt_bd {l : List Int} {j : Nat} {m : Int} (hm : 0 < m) : 0 ≤ nxt l j m ∧ nxt l j m < m := by
  unfold nxt; split
  · exact ⟨Int.emod_nonneg _ (by omega), Int.emod_lt_of_pos _ (by omega)⟩
  · omega
theorem mk_From_k (xs : List Int) : FnOk Tryz.prog F.mk_From [Li xs] [] 0 (.one (.vptr 0 0)) [(0, Src xs 0)] 1 := by
  refine fnOk tab mix G.mk_From rfl rfl (by kernel_rfl) rfl rfl ?_
  repeat' ((conv => whnf); first | refine ask_m (fun h => ?_) (fun h => ?_) | refine ret0 ?_)
  exact ⟨[], ⟨rfl, trivial⟩, ⟨rfl, trivial⟩⟩
theorem mk_Next_k (xs : List Int) (k : Nat) (m : Int) (hm : 0 < m) (hm2 : m ≤ 4611686018427387904) (hx : xs.length ≤ 4611686018427387904) (hk : k ≤ xs.length) : FnOk Tryz.prog F.mk_Source_Next [.one (.vptr 0 0), I m] [(0, Src xs k)] 1 (I (nxt xs k m)) [(0, Src xs (adv xs k))] 1 := by
  refine fnOk tab mix G.mk_Source_Next rfl rfl (by kernel_rfl) rfl rfl ?_
  repeat' ((conv => whnf); first | refine ask_m (fun h => ?_) (fun h => ?_) | refine ret0 ?_)
  · have hl : ¬ k < xs.length := by simp at h; omega
    have h1 : nxt xs k m = 0 := by unfold nxt; rw [List.getElem?_eq_none (by omega)]
    have h2 : adv xs k = k := by simp [adv, hl]
    rw [h1, h2]
    exact ⟨[], ⟨rfl, trivial⟩, ⟨rfl, trivial⟩⟩
  · have hl : k < xs.length := by simp at h; omega
    obtain ⟨x, hxk⟩ : ∃ x, xs[k]? = some x := ⟨_, List.getElem?_eq_getElem hl⟩
    have h1 : nxt xs k m = x % m := by unfold nxt; rw [hxk]
    have h2 : adv xs k = k + 1 := by simp [adv, hl]
    have w1 : IntKind.i64.wrap ((k : Int) + 1) = ((k + 1 : Nat) : Int) := by rw [w64] <;> omega
    have w2 : IntKind.i64.wrap (((k + 1 : Nat) : Int) - 1) = k := by rw [w64] <;> omega
    rw [h1, h2]
    (conv => whnf)
    rw [w1, w2]
    refine ⟨by omega, idx_map (by simpa using hxk) ?_⟩
    (conv => whnf)
    refine ⟨_, _, _, mk_Round x m hm hm2, ?_⟩
    (conv => whnf)
    refine ret0 ?_
    exact ⟨[], ⟨rfl, trivial⟩, ⟨rfl, trivial⟩⟩
/-- a source of which j numbers have been asked -/
abbrev SrcJ (l : List Int) (j : Nat) : Box := Src l (min j l.length)
theorem nxt_min {l : List Int} {j : Nat} {m : Int} : nxt l (min j l.length) m = nxt l j m := by
  unfold nxt
  by_cases h : j < l.length
  · rw [Nat.min_eq_left (by omega)]
  · rw [Nat.min_eq_right (by omega), List.getElem?_eq_none (Nat.le_refl _), List.getElem?_eq_none (by omega)]
theorem adv_min {l : List Int} {j : Nat} : adv l (min j l.length) = min (j + 1) l.length := by
  unfold adv; split <;> omega
theorem mk_Next (l : List Int) (j : Nat) (m : Int) (hm : 0 < m) (hm2 : m ≤ 4611686018427387904) (hl : l.length ≤ 4611686018427387904) : FnOk Tryz.prog F.mk_Source_Next [.one (.vptr 0 0), I m] [(0, SrcJ l j)] 1 (I (nxt l j m)) [(0, SrcJ l (j + 1))] 1 := by
  have := mk_Next_k l (min j l.length) m hm hm2 hl (by omega)
  rw [nxt_min, adv_min] at this
  exact this
theorem mk_From (l : List Int) : FnOk Tryz.prog F.mk_From [Li l] [] 0 (.one (.vptr 0 0)) [(0, SrcJ l 0)] 1 := by
  show FnOk Tryz.prog F.mk_From [Li l] [] 0 (.one (.vptr 0 0)) [(0, Src l (min 0 l.length))] 1
  rw [Nat.zero_min]
  exact mk_From_k l
theorem mk_Signed (l : List Int) (j : Nat) (m M : Int) (hM : 2 * m + 1 = M) (hm : 0 < m) (hm2 : m ≤ 1152921504606846976) (hl : l.length ≤ 4611686018427387904) : FnOk Tryz.prog F.mk_Source_Signed [.one (.vptr 0 0), I m] [(0, SrcJ l j)] 1 (I (nxt l j M - m)) [(0, SrcJ l (j + 1))] 1 := by
  refine fnOk tab mix G.mk_Source_Signed rfl rfl (by kernel_rfl) rfl rfl ?_
  have w1 : IntKind.i64.wrap (2 * m) = 2 * m := by rw [w64] <;> omega
  have w2 : IntKind.i64.wrap (2 * m + 1) = M := by rw [w64] <;> omega
  have hn := nxt_bd (l := l) (j := j) (m := M) (by omega)
  have w3 : IntKind.i64.wrap (nxt l j M - m) = nxt l j M - m := by rw [w64] <;> omega
  (conv => whnf)
  rw [w1, w2]
  refine ⟨_, _, _, mk_Next l j M (by omega) (by omega) hl, ?_⟩
  (conv => whnf)
  refine ret0 ?_
  exact ⟨[], ⟨eqI w3, trivial⟩, ⟨rfl, trivial⟩⟩

/- data of the parameters' types -/
theorem ty_int64 {n : Nat} {ds : List DV} (h : Typed T (n + 1) Y.int64 ds) : ∃ a, ds = encI a := by
  obtain ⟨a, h, _⟩ := h
  exact ⟨a, h⟩
theorem ty_int {n : Nat} {ds : List DV} (h : Typed T (n + 1) Y.int ds) : ∃ a, ds = encI a := by
  obtain ⟨a, h, _⟩ := h
  exact ⟨a, h⟩
theorem ty_s_int {n : Nat} {ds : List DV} (h : Typed T (n + 2) Y.s_int ds) : ∃ xs : List Int, ds = [.lst 1 (xs.map encI)] ∧ xs.length ≤ 17592186043904 := by
  obtain ⟨rs, h1, h2, _, h3⟩ := h
  obtain ⟨xs, rfl⟩ := map_of (enc := encI) fun r hr => ty_int (h3 r hr)
  refine ⟨xs, h1, ?_⟩
  have : xs.length * 8 ≤ reachBytes := by simpa using h2
  unfold reachBytes at this; omega
/- the same, each with a bound -/
theorem tyB_int {n : Nat} {ds : List DV} (h : Typed T (n + 1) Y.int ds) : ∃ a, ds = encI a ∧ True := by
  obtain ⟨a, h⟩ := ty_int h
  exact ⟨a, h, trivial⟩
theorem tyB_s_int {n : Nat} {ds : List DV} (h : Typed T (n + 2) Y.s_int ds) : ∃ xs : List Int, ds = [.lst 1 (xs.map encI)] ∧ xs.length ≤ 17592186043904 := ty_s_int h
end Go.Proofs.YthdbdokhncaijaaGreat

/- The makers: letters, joints. -/
namespace Go.Proofs.YthdbdokhncaijaaGreat
open Eng
set_option maxRecDepth 10000
attribute [local irreducible] FnOk loopW idxF retX arrF

def letter (k : Nat) : ByteArray := ⟨#[(97 + k).toUInt8]⟩
theorem letter_cut (k : Nat) (hk : k < 10) : (ByteArray.mk #[97, 98, 99, 100, 101, 102, 103, 104, 105, 106]).extract k (k + 1) = letter k := by
  have h : ∀ k, k < 10 → (ByteArray.mk #[97, 98, 99, 100, 101, 102, 103, 104, 105, 106]).extract k (k + 1) = letter k := by decide
  exact h k hk
theorem mk_letter (k : Nat) (hk : k < 10) : FnOk Tryz.prog F.mk_letter [I k] [] 0 (Tx (letter k)) [] 0 := by
  refine fnOk tab mix G.mk_letter rfl rfl (by kernel_rfl) rfl rfl ?_
  (conv => whnf)
  have hkk : IntKind.i64.wrap ((k : Int) + 1) = ((k + 1 : Nat) : Int) := by rw [w64] <;> omega
  rw [hkk]
  refine ⟨⟨by omega, by omega, by show _ ≤ (10 : Int); omega⟩, ?_⟩
  (conv => whnf)
  refine ret0 ?_
  rw [Int.toNat_natCast, Int.toNat_natCast]
  exact ret_dv (congrArg DV.str (letter_cut k hk)) rfl
def kindOf (n : Int) : Int := [3, 3, 1, 2, 4, 5, 3, 0].getD n.toNat 0
def jParent (l : List Int) (p i : Nat) : Int := if nxt l (p + 3) 4 = 1 then -1 else (i : Int) - 1
def jOff (l : List Int) (p i : Nat) : Vec := if 0 < i then ⟨131072, (nxt l (p + 4) 5 - 2) * 32768, (nxt l (p + 5) 3 - 1) * 32768⟩ else ⟨0, 0, 0⟩
def jAt (p i : Nat) : Nat := if 0 < i then p + 6 else p + 4
def jSpan (l : List Int) (q : Nat) (kd : Int) : Int × Int × Nat :=
  if kd = 0 then (0, 0, q)
  else if kd = 4 ∨ kd = 5 then ((0 - nxt l q 3) * 65536, nxt l (q + 1) 4 * 32768, q + 2)
  else ((0 - nxt l q 5) * 8192, (1 + nxt l (q + 1) 4) * 8192 + nxt l (q + 2) 3, q + 3)
def jKind (l : List Int) (p : Nat) : Int := kindOf (nxt l (p + 2) 8)
def mkJoint (l : List Int) (p i : Nat) : Joint :=
  ⟨letter i, jKind l p, jParent l p i, jOff l p i, (jSpan l (jAt p i) (jKind l p)).1, (jSpan l (jAt p i) (jKind l p)).2.1, 1 + nxt l p 4, 65536, 65536 + nxt l (p + 1) 3, 327680⟩
def mkJointAt (l : List Int) (p i : Nat) : Nat := (jSpan l (jAt p i) (jKind l p)).2.2
theorem kind_at {n : Int} (h0 : 0 ≤ n) (h8 : n < 8) : [CV.dv (.int .i64 3), .dv (.int .i64 3), .dv (.int .i64 1), .dv (.int .i64 2), .dv (.int .i64 4), .dv (.int .i64 5), .dv (.int .i64 3), .dv (.int .i64 0)][n.toNat]? = some (.dv (.int .i64 (kindOf n))) := by
  obtain ⟨k, rfl⟩ : ∃ k : Nat, n = k := ⟨n.toNat, by omega⟩
  rw [kindOf, Int.toNat_natCast]
  match k, h8 with
  | 0, _ | 1, _ | 2, _ | 3, _ | 4, _ | 5, _ | 6, _ | 7, _ => rfl
  | k + 8, h => omega
abbrev Jo (j : Joint) : SV := .agg [.dv (.str j.name), .dv (.int .i64 j.kind), .dv (.int .i64 j.parent), .dv (.int .i64 j.off.x), .dv (.int .i64 j.off.y), .dv (.int .i64 j.off.z), .dv (.int .i64 j.lo), .dv (.int .i64 j.hi), .dv (.int .i64 j.weight), .dv (.int .i64 j.speed), .dv (.int .i64 j.accel), .dv (.int .i64 j.torque)]
theorem w_lo {a : Int} (h0 : 0 ≤ a) (h1 : a < 5) : IntKind.i64.wrap ((IntKind.i64.wrap (IntKind.i64.wrap (0 - a) * 65536)).tdiv 8) = (0 - a) * 8192 := by
  rw [w64 (x := 0 - a) (by omega) (by omega), w64 (x := (0 - a) * 65536) (by omega) (by omega), show (0 - a) * 65536 = ((0 - a) * 8192) * 8 by omega, Int.mul_tdiv_cancel _ (by decide), w64] <;> omega
theorem w_hi {a b : Int} (h0 : 0 ≤ a) (h1 : a < 4) (h2 : 0 ≤ b) (h3 : b < 3) : IntKind.i64.wrap (IntKind.i64.wrap ((IntKind.i64.wrap (IntKind.i64.wrap (1 + a) * 65536)).tdiv 8) + b) = (1 + a) * 8192 + b := by
  rw [w64 (x := 1 + a) (by omega) (by omega), w64 (x := (1 + a) * 65536) (by omega) (by omega), show (1 + a) * 65536 = ((1 + a) * 8192) * 8 by omega, Int.mul_tdiv_cancel _ (by decide), w64 (x := (1 + a) * 8192) (by omega) (by omega), w64] <;> omega
theorem mk_joint (l : List Int) (p i : Nat) (hl : l.length ≤ 4611686018427387904) (hi : i < 10) : FnOk Tryz.prog F.mk_joint [.one (.vptr 0 0), I i] [(0, SrcJ l p)] 1 (Jo (mkJoint l p i)) [(0, SrcJ l (mkJointAt l p i))] 1 := by
  refine fnOk tab mix G.mk_joint rfl rfl (by kernel_rfl) rfl rfl ?_
  (conv => whnf)
  refine call_i (mk_letter i hi) ?_
  (conv => whnf)
  refine call_i (mk_Next l p 4 (by omega) (by omega) hl) ?_
  (conv => whnf)
  refine call_i (mk_Next l (p + 1) 3 (by omega) (by omega) hl) ?_
  (conv => whnf)
  refine call_i (mk_Next l (p + 2) 8 (by omega) (by omega) hl) ?_
  (conv => whnf)
  have n0 := nxt_bd (l := l) (j := p) (m := 4) (by omega)
  have n1 := nxt_bd (l := l) (j := p + 1) (m := 3) (by omega)
  have n2 := nxt_bd (l := l) (j := p + 2) (m := 8) (by omega)
  refine ⟨⟨n2.1, by simpa using n2.2⟩, ?_⟩
  have hkd := kind_at n2.1 n2.2
  rw [show kindOf (nxt l (p + 2) 8) = jKind l p from rfl] at hkd
  refine arr_at rfl rfl hkd ?_
  clear hkd
  (conv => whnf)
  refine call_i (mk_Next l (p + 3) 4 (by omega) (by omega) hl) ?_
  (conv => whnf)
  have w0 : IntKind.i64.wrap (1 + nxt l p 4) = 1 + nxt l p 4 := by rw [w64] <;> omega
  have w1 : IntKind.i64.wrap (65536 + nxt l (p + 1) 3) = 65536 + nxt l (p + 1) 3 := by rw [w64] <;> omega
  have wi : IntKind.i64.wrap ((i : Int) - 1) = (i : Int) - 1 := by rw [w64] <;> omega
  rw [w0, w1, wi]
  have hJ : mkJoint l p i = ⟨letter i, jKind l p, jParent l p i, jOff l p i, (jSpan l (jAt p i) (jKind l p)).1, (jSpan l (jAt p i) (jKind l p)).2.1, 1 + nxt l p 4, 65536, 65536 + nxt l (p + 1) 3, 327680⟩ := rfl
  rw [hJ, mkJointAt]
  generalize jKind l p = kd
  refine ask_m (fun h => ?_) (fun h => ?_)
  · have hp : jParent l p i = -1 := by unfold jParent; rw [if_pos (by simpa using h)]
    rw [hp]
    (conv => whnf)
    refine ask_m (fun h => ?_) (fun h => ?_)
    · have h : 0 < i := by have := of_decide_eq_true h; omega
      have ho : jOff l p i = ⟨131072, (nxt l (p + 4) 5 - 2) * 32768, (nxt l (p + 5) 3 - 1) * 32768⟩ := by unfold jOff; rw [if_pos h]
      have hq : jAt p i = p + 6 := by unfold jAt; rw [if_pos h]
      rw [ho, hq]
      (conv => whnf)
      refine call_i (mk_Signed l (p + 4) 2 5 (by omega) (by omega) (by omega) hl) ?_
      (conv => whnf)
      refine call_i (mk_Signed l (p + 5) 1 3 (by omega) (by omega) (by omega) hl) ?_
      (conv => whnf)
      have s4 := nxt_bd (l := l) (j := p + 4) (m := 5) (by omega)
      have s5 := nxt_bd (l := l) (j := p + 5) (m := 3) (by omega)
      rw [show IntKind.i64.wrap ((nxt l (p + 4) 5 - 2) * 32768) = (nxt l (p + 4) 5 - 2) * 32768 by rw [w64] <;> omega, show IntKind.i64.wrap ((nxt l (p + 5) 3 - 1) * 32768) = (nxt l (p + 5) 3 - 1) * 32768 by rw [w64] <;> omega]
      refine ask_m (fun h => ?_) (fun h => ?_)
      · have e : jSpan l (p + 6) kd = (0, 0, p + 6) := by unfold jSpan; rw [if_pos (by simpa using h)]
        rw [e]
        (conv => whnf)
        refine ret0 ?_
        exact ⟨[], ⟨rfl, trivial⟩, ⟨rfl, trivial⟩⟩
      have k0 : ¬ kd = 0 := by simpa using h
      (conv => whnf)
      refine ask_m (fun h => ?_) (fun h => ?_)
      · have e : jSpan l (p + 6) kd = ((0 - nxt l (p + 6) 3) * 65536, nxt l (p + 6 + 1) 4 * 32768, p + 6 + 2) := by unfold jSpan; rw [if_neg k0, if_pos (by simp_all)]
        have a0 := nxt_bd (l := l) (j := p + 6) (m := 3) (by omega)
        have a1 := nxt_bd (l := l) (j := p + 6 + 1) (m := 4) (by omega)
        rw [e]
        (conv => whnf)
        refine ask_mt h ?_
        (conv => whnf)
        refine call_i (mk_Next l (p + 6) 3 (by omega) (by omega) hl) ?_
        (conv => whnf)
        refine call_i (mk_Next l (p + 6 + 1) 4 (by omega) (by omega) hl) ?_
        (conv => whnf)
        refine ret0 ?_
        rw [show IntKind.i64.wrap (0 - nxt l (p + 6) 3) = 0 - nxt l (p + 6) 3 by rw [w64] <;> omega, show IntKind.i64.wrap ((0 - nxt l (p + 6) 3) * 65536) = (0 - nxt l (p + 6) 3) * 65536 by rw [w64] <;> omega, show IntKind.i64.wrap (nxt l (p + 6 + 1) 4 * 32768) = nxt l (p + 6 + 1) 4 * 32768 by rw [w64] <;> omega]
        exact ⟨[], ⟨rfl, trivial⟩, ⟨rfl, trivial⟩⟩
      (conv => whnf)
      refine ask_m (fun h => ?_) (fun h => ?_)
      · have e : jSpan l (p + 6) kd = ((0 - nxt l (p + 6) 3) * 65536, nxt l (p + 6 + 1) 4 * 32768, p + 6 + 2) := by unfold jSpan; rw [if_neg k0, if_pos (by simp_all)]
        have a0 := nxt_bd (l := l) (j := p + 6) (m := 3) (by omega)
        have a1 := nxt_bd (l := l) (j := p + 6 + 1) (m := 4) (by omega)
        rw [e]
        (conv => whnf)
        refine call_i (mk_Next l (p + 6) 3 (by omega) (by omega) hl) ?_
        (conv => whnf)
        refine call_i (mk_Next l (p + 6 + 1) 4 (by omega) (by omega) hl) ?_
        (conv => whnf)
        refine ret0 ?_
        rw [show IntKind.i64.wrap (0 - nxt l (p + 6) 3) = 0 - nxt l (p + 6) 3 by rw [w64] <;> omega, show IntKind.i64.wrap ((0 - nxt l (p + 6) 3) * 65536) = (0 - nxt l (p + 6) 3) * 65536 by rw [w64] <;> omega, show IntKind.i64.wrap (nxt l (p + 6 + 1) 4 * 32768) = nxt l (p + 6 + 1) 4 * 32768 by rw [w64] <;> omega]
        exact ⟨[], ⟨rfl, trivial⟩, ⟨rfl, trivial⟩⟩
      · have e : jSpan l (p + 6) kd = ((0 - nxt l (p + 6) 5) * 8192, (1 + nxt l (p + 6 + 1) 4) * 8192 + nxt l (p + 6 + 2) 3, p + 6 + 3) := by unfold jSpan; rw [if_neg k0, if_neg (by simp_all)]
        rw [e]
        have a0 := nxt_bd (l := l) (j := p + 6) (m := 5) (by omega)
        have a1 := nxt_bd (l := l) (j := p + 6 + 1) (m := 4) (by omega)
        have a2 := nxt_bd (l := l) (j := p + 6 + 2) (m := 3) (by omega)
        (conv => whnf)
        refine call_i (mk_Next l (p + 6) 5 (by omega) (by omega) hl) ?_
        (conv => whnf)
        refine ⟨by omega, ?_⟩
        (conv => whnf)
        refine call_i (mk_Next l (p + 6 + 1) 4 (by omega) (by omega) hl) ?_
        (conv => whnf)
        refine ⟨by omega, ?_⟩
        (conv => whnf)
        refine call_i (mk_Next l (p + 6 + 2) 3 (by omega) (by omega) hl) ?_
        (conv => whnf)
        refine ret0 ?_
        rw [w_lo a0.1 a0.2, w_hi a1.1 a1.2 a2.1 a2.2]
        exact ⟨[], ⟨rfl, trivial⟩, ⟨rfl, trivial⟩⟩
    · have h : ¬ 0 < i := by have := of_decide_eq_false h; omega
      have ho : jOff l p i = ⟨0, 0, 0⟩ := by unfold jOff; rw [if_neg h]
      have hq : jAt p i = p + 4 := by unfold jAt; rw [if_neg h]
      rw [ho, hq]
      (conv => whnf)
      refine ask_m (fun h => ?_) (fun h => ?_)
      · have e : jSpan l (p + 4) kd = (0, 0, p + 4) := by unfold jSpan; rw [if_pos (by simpa using h)]
        rw [e]
        (conv => whnf)
        refine ret0 ?_
        exact ⟨[], ⟨rfl, trivial⟩, ⟨rfl, trivial⟩⟩
      have k0 : ¬ kd = 0 := by simpa using h
      (conv => whnf)
      refine ask_m (fun h => ?_) (fun h => ?_)
      · have e : jSpan l (p + 4) kd = ((0 - nxt l (p + 4) 3) * 65536, nxt l (p + 4 + 1) 4 * 32768, p + 4 + 2) := by unfold jSpan; rw [if_neg k0, if_pos (by simp_all)]
        have a0 := nxt_bd (l := l) (j := p + 4) (m := 3) (by omega)
        have a1 := nxt_bd (l := l) (j := p + 4 + 1) (m := 4) (by omega)
        rw [e]
        (conv => whnf)
        refine ask_mt h ?_
        (conv => whnf)
        refine call_i (mk_Next l (p + 4) 3 (by omega) (by omega) hl) ?_
        (conv => whnf)
        refine call_i (mk_Next l (p + 4 + 1) 4 (by omega) (by omega) hl) ?_
        (conv => whnf)
        refine ret0 ?_
        rw [show IntKind.i64.wrap (0 - nxt l (p + 4) 3) = 0 - nxt l (p + 4) 3 by rw [w64] <;> omega, show IntKind.i64.wrap ((0 - nxt l (p + 4) 3) * 65536) = (0 - nxt l (p + 4) 3) * 65536 by rw [w64] <;> omega, show IntKind.i64.wrap (nxt l (p + 4 + 1) 4 * 32768) = nxt l (p + 4 + 1) 4 * 32768 by rw [w64] <;> omega]
        exact ⟨[], ⟨rfl, trivial⟩, ⟨rfl, trivial⟩⟩
      (conv => whnf)
      refine ask_m (fun h => ?_) (fun h => ?_)
      · have e : jSpan l (p + 4) kd = ((0 - nxt l (p + 4) 3) * 65536, nxt l (p + 4 + 1) 4 * 32768, p + 4 + 2) := by unfold jSpan; rw [if_neg k0, if_pos (by simp_all)]
        have a0 := nxt_bd (l := l) (j := p + 4) (m := 3) (by omega)
        have a1 := nxt_bd (l := l) (j := p + 4 + 1) (m := 4) (by omega)
        rw [e]
        (conv => whnf)
        refine call_i (mk_Next l (p + 4) 3 (by omega) (by omega) hl) ?_
        (conv => whnf)
        refine call_i (mk_Next l (p + 4 + 1) 4 (by omega) (by omega) hl) ?_
        (conv => whnf)
        refine ret0 ?_
        rw [show IntKind.i64.wrap (0 - nxt l (p + 4) 3) = 0 - nxt l (p + 4) 3 by rw [w64] <;> omega, show IntKind.i64.wrap ((0 - nxt l (p + 4) 3) * 65536) = (0 - nxt l (p + 4) 3) * 65536 by rw [w64] <;> omega, show IntKind.i64.wrap (nxt l (p + 4 + 1) 4 * 32768) = nxt l (p + 4 + 1) 4 * 32768 by rw [w64] <;> omega]
        exact ⟨[], ⟨rfl, trivial⟩, ⟨rfl, trivial⟩⟩
      · have e : jSpan l (p + 4) kd = ((0 - nxt l (p + 4) 5) * 8192, (1 + nxt l (p + 4 + 1) 4) * 8192 + nxt l (p + 4 + 2) 3, p + 4 + 3) := by unfold jSpan; rw [if_neg k0, if_neg (by simp_all)]
        rw [e]
        have a0 := nxt_bd (l := l) (j := p + 4) (m := 5) (by omega)
        have a1 := nxt_bd (l := l) (j := p + 4 + 1) (m := 4) (by omega)
        have a2 := nxt_bd (l := l) (j := p + 4 + 2) (m := 3) (by omega)
        (conv => whnf)
        refine call_i (mk_Next l (p + 4) 5 (by omega) (by omega) hl) ?_
        (conv => whnf)
        refine ⟨by omega, ?_⟩
        (conv => whnf)
        refine call_i (mk_Next l (p + 4 + 1) 4 (by omega) (by omega) hl) ?_
        (conv => whnf)
        refine ⟨by omega, ?_⟩
        (conv => whnf)
        refine call_i (mk_Next l (p + 4 + 2) 3 (by omega) (by omega) hl) ?_
        (conv => whnf)
        refine ret0 ?_
        rw [w_lo a0.1 a0.2, w_hi a1.1 a1.2 a2.1 a2.2]
        exact ⟨[], ⟨rfl, trivial⟩, ⟨rfl, trivial⟩⟩
  · have hp : jParent l p i = (i : Int) - 1 := by unfold jParent; rw [if_neg (by simpa using h)]
    rw [hp]
    (conv => whnf)
    refine ask_m (fun h => ?_) (fun h => ?_)
    · have h : 0 < i := by have := of_decide_eq_true h; omega
      have ho : jOff l p i = ⟨131072, (nxt l (p + 4) 5 - 2) * 32768, (nxt l (p + 5) 3 - 1) * 32768⟩ := by unfold jOff; rw [if_pos h]
      have hq : jAt p i = p + 6 := by unfold jAt; rw [if_pos h]
      rw [ho, hq]
      (conv => whnf)
      refine call_i (mk_Signed l (p + 4) 2 5 (by omega) (by omega) (by omega) hl) ?_
      (conv => whnf)
      refine call_i (mk_Signed l (p + 5) 1 3 (by omega) (by omega) (by omega) hl) ?_
      (conv => whnf)
      have s4 := nxt_bd (l := l) (j := p + 4) (m := 5) (by omega)
      have s5 := nxt_bd (l := l) (j := p + 5) (m := 3) (by omega)
      rw [show IntKind.i64.wrap ((nxt l (p + 4) 5 - 2) * 32768) = (nxt l (p + 4) 5 - 2) * 32768 by rw [w64] <;> omega, show IntKind.i64.wrap ((nxt l (p + 5) 3 - 1) * 32768) = (nxt l (p + 5) 3 - 1) * 32768 by rw [w64] <;> omega]
      refine ask_m (fun h => ?_) (fun h => ?_)
      · have e : jSpan l (p + 6) kd = (0, 0, p + 6) := by unfold jSpan; rw [if_pos (by simpa using h)]
        rw [e]
        (conv => whnf)
        refine ret0 ?_
        exact ⟨[], ⟨rfl, trivial⟩, ⟨rfl, trivial⟩⟩
      have k0 : ¬ kd = 0 := by simpa using h
      (conv => whnf)
      refine ask_m (fun h => ?_) (fun h => ?_)
      · have e : jSpan l (p + 6) kd = ((0 - nxt l (p + 6) 3) * 65536, nxt l (p + 6 + 1) 4 * 32768, p + 6 + 2) := by unfold jSpan; rw [if_neg k0, if_pos (by simp_all)]
        have a0 := nxt_bd (l := l) (j := p + 6) (m := 3) (by omega)
        have a1 := nxt_bd (l := l) (j := p + 6 + 1) (m := 4) (by omega)
        rw [e]
        (conv => whnf)
        refine ask_mt h ?_
        (conv => whnf)
        refine call_i (mk_Next l (p + 6) 3 (by omega) (by omega) hl) ?_
        (conv => whnf)
        refine call_i (mk_Next l (p + 6 + 1) 4 (by omega) (by omega) hl) ?_
        (conv => whnf)
        refine ret0 ?_
        rw [show IntKind.i64.wrap (0 - nxt l (p + 6) 3) = 0 - nxt l (p + 6) 3 by rw [w64] <;> omega, show IntKind.i64.wrap ((0 - nxt l (p + 6) 3) * 65536) = (0 - nxt l (p + 6) 3) * 65536 by rw [w64] <;> omega, show IntKind.i64.wrap (nxt l (p + 6 + 1) 4 * 32768) = nxt l (p + 6 + 1) 4 * 32768 by rw [w64] <;> omega]
        exact ⟨[], ⟨rfl, trivial⟩, ⟨rfl, trivial⟩⟩
      (conv => whnf)
      refine ask_m (fun h => ?_) (fun h => ?_)
      · have e : jSpan l (p + 6) kd = ((0 - nxt l (p + 6) 3) * 65536, nxt l (p + 6 + 1) 4 * 32768, p + 6 + 2) := by unfold jSpan; rw [if_neg k0, if_pos (by simp_all)]
        have a0 := nxt_bd (l := l) (j := p + 6) (m := 3) (by omega)
        have a1 := nxt_bd (l := l) (j := p + 6 + 1) (m := 4) (by omega)
        rw [e]
        (conv => whnf)
        refine call_i (mk_Next l (p + 6) 3 (by omega) (by omega) hl) ?_
        (conv => whnf)
        refine call_i (mk_Next l (p + 6 + 1) 4 (by omega) (by omega) hl) ?_
        (conv => whnf)
        refine ret0 ?_
        rw [show IntKind.i64.wrap (0 - nxt l (p + 6) 3) = 0 - nxt l (p + 6) 3 by rw [w64] <;> omega, show IntKind.i64.wrap ((0 - nxt l (p + 6) 3) * 65536) = (0 - nxt l (p + 6) 3) * 65536 by rw [w64] <;> omega, show IntKind.i64.wrap (nxt l (p + 6 + 1) 4 * 32768) = nxt l (p + 6 + 1) 4 * 32768 by rw [w64] <;> omega]
        exact ⟨[], ⟨rfl, trivial⟩, ⟨rfl, trivial⟩⟩
      · have e : jSpan l (p + 6) kd = ((0 - nxt l (p + 6) 5) * 8192, (1 + nxt l (p + 6 + 1) 4) * 8192 + nxt l (p + 6 + 2) 3, p + 6 + 3) := by unfold jSpan; rw [if_neg k0, if_neg (by simp_all)]
        rw [e]
        have a0 := nxt_bd (l := l) (j := p + 6) (m := 5) (by omega)
        have a1 := nxt_bd (l := l) (j := p + 6 + 1) (m := 4) (by omega)
        have a2 := nxt_bd (l := l) (j := p + 6 + 2) (m := 3) (by omega)
        (conv => whnf)
        refine call_i (mk_Next l (p + 6) 5 (by omega) (by omega) hl) ?_
        (conv => whnf)
        refine ⟨by omega, ?_⟩
        (conv => whnf)
        refine call_i (mk_Next l (p + 6 + 1) 4 (by omega) (by omega) hl) ?_
        (conv => whnf)
        refine ⟨by omega, ?_⟩
        (conv => whnf)
        refine call_i (mk_Next l (p + 6 + 2) 3 (by omega) (by omega) hl) ?_
        (conv => whnf)
        refine ret0 ?_
        rw [w_lo a0.1 a0.2, w_hi a1.1 a1.2 a2.1 a2.2]
        exact ⟨[], ⟨rfl, trivial⟩, ⟨rfl, trivial⟩⟩
    · have h : ¬ 0 < i := by have := of_decide_eq_false h; omega
      have ho : jOff l p i = ⟨0, 0, 0⟩ := by unfold jOff; rw [if_neg h]
      have hq : jAt p i = p + 4 := by unfold jAt; rw [if_neg h]
      rw [ho, hq]
      (conv => whnf)
      refine ask_m (fun h => ?_) (fun h => ?_)
      · have e : jSpan l (p + 4) kd = (0, 0, p + 4) := by unfold jSpan; rw [if_pos (by simpa using h)]
        rw [e]
        (conv => whnf)
        refine ret0 ?_
        exact ⟨[], ⟨rfl, trivial⟩, ⟨rfl, trivial⟩⟩
      have k0 : ¬ kd = 0 := by simpa using h
      (conv => whnf)
      refine ask_m (fun h => ?_) (fun h => ?_)
      · have e : jSpan l (p + 4) kd = ((0 - nxt l (p + 4) 3) * 65536, nxt l (p + 4 + 1) 4 * 32768, p + 4 + 2) := by unfold jSpan; rw [if_neg k0, if_pos (by simp_all)]
        have a0 := nxt_bd (l := l) (j := p + 4) (m := 3) (by omega)
        have a1 := nxt_bd (l := l) (j := p + 4 + 1) (m := 4) (by omega)
        rw [e]
        (conv => whnf)
        refine ask_mt h ?_
        (conv => whnf)
        refine call_i (mk_Next l (p + 4) 3 (by omega) (by omega) hl) ?_
        (conv => whnf)
        refine call_i (mk_Next l (p + 4 + 1) 4 (by omega) (by omega) hl) ?_
        (conv => whnf)
        refine ret0 ?_
        rw [show IntKind.i64.wrap (0 - nxt l (p + 4) 3) = 0 - nxt l (p + 4) 3 by rw [w64] <;> omega, show IntKind.i64.wrap ((0 - nxt l (p + 4) 3) * 65536) = (0 - nxt l (p + 4) 3) * 65536 by rw [w64] <;> omega, show IntKind.i64.wrap (nxt l (p + 4 + 1) 4 * 32768) = nxt l (p + 4 + 1) 4 * 32768 by rw [w64] <;> omega]
        exact ⟨[], ⟨rfl, trivial⟩, ⟨rfl, trivial⟩⟩
      (conv => whnf)
      refine ask_m (fun h => ?_) (fun h => ?_)
      · have e : jSpan l (p + 4) kd = ((0 - nxt l (p + 4) 3) * 65536, nxt l (p + 4 + 1) 4 * 32768, p + 4 + 2) := by unfold jSpan; rw [if_neg k0, if_pos (by simp_all)]
        have a0 := nxt_bd (l := l) (j := p + 4) (m := 3) (by omega)
        have a1 := nxt_bd (l := l) (j := p + 4 + 1) (m := 4) (by omega)
        rw [e]
        (conv => whnf)
        refine call_i (mk_Next l (p + 4) 3 (by omega) (by omega) hl) ?_
        (conv => whnf)
        refine call_i (mk_Next l (p + 4 + 1) 4 (by omega) (by omega) hl) ?_
        (conv => whnf)
        refine ret0 ?_
        rw [show IntKind.i64.wrap (0 - nxt l (p + 4) 3) = 0 - nxt l (p + 4) 3 by rw [w64] <;> omega, show IntKind.i64.wrap ((0 - nxt l (p + 4) 3) * 65536) = (0 - nxt l (p + 4) 3) * 65536 by rw [w64] <;> omega, show IntKind.i64.wrap (nxt l (p + 4 + 1) 4 * 32768) = nxt l (p + 4 + 1) 4 * 32768 by rw [w64] <;> omega]
        exact ⟨[], ⟨rfl, trivial⟩, ⟨rfl, trivial⟩⟩
      · have e : jSpan l (p + 4) kd = ((0 - nxt l (p + 4) 5) * 8192, (1 + nxt l (p + 4 + 1) 4) * 8192 + nxt l (p + 4 + 2) 3, p + 4 + 3) := by unfold jSpan; rw [if_neg k0, if_neg (by simp_all)]
        rw [e]
        have a0 := nxt_bd (l := l) (j := p + 4) (m := 5) (by omega)
        have a1 := nxt_bd (l := l) (j := p + 4 + 1) (m := 4) (by omega)
        have a2 := nxt_bd (l := l) (j := p + 4 + 2) (m := 3) (by omega)
        (conv => whnf)
        refine call_i (mk_Next l (p + 4) 5 (by omega) (by omega) hl) ?_
        (conv => whnf)
        refine ⟨by omega, ?_⟩
        (conv => whnf)
        refine call_i (mk_Next l (p + 4 + 1) 4 (by omega) (by omega) hl) ?_
        (conv => whnf)
        refine ⟨by omega, ?_⟩
        (conv => whnf)
        refine call_i (mk_Next l (p + 4 + 2) 3 (by omega) (by omega) hl) ?_
        (conv => whnf)
        refine ret0 ?_
        rw [w_lo a0.1 a0.2, w_hi a1.1 a1.2 a2.1 a2.2]
        exact ⟨[], ⟨rfl, trivial⟩, ⟨rfl, trivial⟩⟩
end Go.Proofs.YthdbdokhncaijaaGreat

/- The makers: points. -/
namespace Go.Proofs.YthdbdokhncaijaaGreat
open Eng
set_option maxRecDepth 10000
attribute [local irreducible] FnOk loopW idxF retX arrF

def mkPt (l : List Int) (b : Vec) (q : Nat) : Vec := ⟨b.x + (nxt l q 7 - 3) * 32768, b.y + (nxt l (q + 1) 5 - 2) * 32768, b.z + (nxt l (q + 2) 5 - 2) * 32768⟩
def ptsTo (l : List Int) (b : Vec) (p k : Nat) : List Vec := b :: (List.range k).map fun i => mkPt l b (p + 1 + 3 * i)
def nPts (l : List Int) (p : Nat) : Nat := (nxt l p 4).toNat
def mkPts (l : List Int) (b : Vec) (p : Nat) : List Vec := ptsTo l b p (nPts l p)
def mkPtsAt (l : List Int) (p : Nat) : Nat := p + 1 + 3 * nPts l p
theorem ptsTo_succ (l : List Int) (b : Vec) (p k : Nat) : ptsTo l b p (k + 1) = ptsTo l b p k ++ [mkPt l b (p + 1 + 3 * k)] := by
  simp [ptsTo, List.range_succ]
def near (b : Vec) : Prop := (-1099511627776 ≤ b.x ∧ b.x ≤ 1099511627776) ∧ (-1099511627776 ≤ b.y ∧ b.y ≤ 1099511627776) ∧ (-1099511627776 ≤ b.z ∧ b.z ≤ 1099511627776)
theorem w_co {a c : Int} (h1 : -1099511627776 ≤ a) (h2 : a ≤ 1099511627776) (h3 : -10000 ≤ c) (h4 : c ≤ 10000) : IntKind.i64.wrap (a + IntKind.i64.wrap (c * 32768)) = a + c * 32768 := by
  rw [w64 (x := c * 32768) (by omega) (by omega), w64] <;> omega
theorem mk_points (l : List Int) (p : Nat) (b : Vec) (hl : l.length ≤ 4611686018427387904) (hb : near b) : FnOk Tryz.prog F.mk_points [.one (.vptr 0 0), Ve b] [(0, SrcJ l p)] 1 (.one (.dv (dVs (mkPts l b p)))) [(0, SrcJ l (mkPtsAt l p))] 1 := by
  refine fnOk tab mix G.mk_points rfl rfl (by kernel_rfl) rfl rfl ?_
  obtain ⟨⟨b1, b2⟩, ⟨b3, b4⟩, b5, b6⟩ := hb
  have n0 := nxt_bd (l := l) (j := p) (m := 4) (by omega)
  obtain ⟨n, hn⟩ : ∃ n : Nat, nxt l p 4 = n := ⟨(nxt l p 4).toNat, by omega⟩
  have hn2 : nPts l p = n := by simp [nPts, hn]
  rw [mkPts, mkPtsAt, hn2]
  (conv => whnf)
  refine call_i (mk_Next l p 4 (by omega) (by omega) hl) ?_
  (conv => whnf)
  rw [hn]
  refine loop_intro (fun k : Nat => ⟨[(0, .one (.vptr 0 0)), (3, .one (.vptr 1 0)), (5, .one (.row 2)), (6, I ((n : Int) - k))], [(0, SrcJ l (p + 1 + 3 * k)), (1, .vars Y.Vec [.dv (.int .i64 b.x), .dv (.int .i64 b.y), .dv (.int .i64 b.z)]), (2, .rows Y.Vec 3 ((ptsTo l b p k).map encV))], 3⟩) (fun k => k ≤ n) (fun k => n - k) [] 0 [] (Nat.zero_le _) ⟨⟨rfl, rfl, rfl, eqI (by simp), trivial⟩, ⟨rfl, rfl, rfl, trivial⟩⟩ ?_
  rintro k hk
  (conv => whnf)
  refine ask_m (fun h => ?_) (fun h => ?_)
  · have hlt : k < n := by have := of_decide_eq_true h; omega
    (conv => whnf)
    refine ⟨⟨by omega, by omega⟩, ?_⟩
    (conv => whnf)
    refine call_i (mk_Signed l (p + 1 + 3 * k) 3 7 (by omega) (by omega) (by omega) hl) ?_
    (conv => whnf)
    refine ⟨⟨by omega, by omega⟩, ?_⟩
    (conv => whnf)
    refine call_i (mk_Signed l (p + 1 + 3 * k + 1) 2 5 (by omega) (by omega) (by omega) hl) ?_
    (conv => whnf)
    refine ⟨⟨by omega, by omega⟩, ?_⟩
    (conv => whnf)
    refine call_i (mk_Signed l (p + 1 + 3 * k + 2) 2 5 (by omega) (by omega) (by omega) hl) ?_
    (conv => whnf)
    have hlen : (ptsTo l b p k).length = k + 1 := by simp [ptsTo]
    refine ⟨⟨by simp; omega, by simp; omega⟩, ?_⟩
    (conv => whnf)
    have s0 := nxt_bd (l := l) (j := p + 1 + 3 * k) (m := 7) (by omega)
    have s1 := nxt_bd (l := l) (j := p + 1 + 3 * k + 1) (m := 5) (by omega)
    have s2 := nxt_bd (l := l) (j := p + 1 + 3 * k + 2) (m := 5) (by omega)
    refine ⟨k + 1, [(2, 4)], hlt, by omega, ⟨⟨rfl, rfl, rfl, eqI ?_, trivial⟩, ⟨?_, rfl, ?_, trivial⟩⟩⟩
    · rw [w64] <;> omega
    · rw [show p + 1 + 3 * (k + 1) = p + 1 + 3 * k + 3 by omega]; rfl
    · rw [ptsTo_succ]
      rw [w_co b1 b2 (by omega) (by omega), w_co b3 b4 (by omega) (by omega), w_co b5 b6 (by omega) (by omega)]
      rw [List.map_append]
      rfl
  · have hk : k = n := by have := of_decide_eq_false h; omega
    subst hk
    (conv => whnf)
    refine retO [.frz 2] ?_
    (conv => whnf)
    exact ⟨[], ⟨rfl, trivial⟩, ⟨rfl, trivial⟩⟩
end Go.Proofs.YthdbdokhncaijaaGreat

/- The makers: robots. -/
namespace Go.Proofs.YthdbdokhncaijaaGreat
open Eng
set_option maxRecDepth 10000
attribute [local irreducible] FnOk loopW idxF retX arrF

def jPos (l : List Int) (p : Nat) : Nat → Nat
  | 0 => p
  | k + 1 => mkJointAt l (jPos l p k) k
def mkJoints (l : List Int) (p k : Nat) : List Joint := (List.range k).map fun i => mkJoint l (jPos l p i) i
theorem mkJoints_succ (l : List Int) (p k : Nat) : mkJoints l p (k + 1) = mkJoints l p k ++ [mkJoint l (jPos l p k) k] := by
  simp [mkJoints, List.range_succ]
def mkMass (l : List Int) (n : Nat) (q : Nat) : Mass := ⟨nxt l q n, 1 + nxt l (q + 1) 9000, ⟨(nxt l (q + 2) 7 - 3) * 32768, 0, (nxt l (q + 3) 5 - 2) * 32768⟩⟩
def mkMasses (l : List Int) (n q k : Nat) : List Mass := (List.range k).map fun i => mkMass l n (q + 1 + 4 * i)
theorem mkMasses_succ (l : List Int) (n q k : Nat) : mkMasses l n q (k + 1) = mkMasses l n q k ++ [mkMass l n (q + 1 + 4 * k)] := by
  simp [mkMasses, List.range_succ]
def nJ (l : List Int) (p : Nat) : Nat := 1 + (nxt l p 3).toNat
def qM (l : List Int) (p : Nat) : Nat := jPos l (p + 1) (nJ l p)
def nM (l : List Int) (p : Nat) : Nat := (nxt l (qM l p) 3).toNat
def mkRobot (l : List Int) (p : Nat) : Robot := ⟨mkJoints l (p + 1) (nJ l p), mkMasses l (nJ l p) (qM l p) (nM l p)⟩
def mkRobotAt (l : List Int) (p : Nat) : Nat := qM l p + 1 + 4 * nM l p
theorem mk_robot (l : List Int) (p : Nat) (hl : l.length ≤ 4611686018427387904) : FnOk Tryz.prog F.mk_robot [.one (.vptr 0 0)] [(0, SrcJ l p)] 1 (Ro (mkRobot l p)) [(0, SrcJ l (mkRobotAt l p))] 1 := by
  refine fnOk tab mix G.mk_robot rfl rfl (by kernel_rfl) rfl rfl ?_
  have n0 := nxt_bd (l := l) (j := p) (m := 3) (by omega)
  have hn : IntKind.i64.wrap (1 + nxt l p 3) = (nJ l p : Nat) := by
    rw [w64 (by omega) (by omega)]; unfold nJ; omega
  have hn2 : nJ l p ≤ 3 := by unfold nJ; omega
  have hn1 : 1 ≤ nJ l p := by unfold nJ; omega
  rw [mkRobotAt, mkRobot, nM, qM]
  (conv => whnf)
  refine call_i (mk_Next l p 3 (by omega) (by omega) hl) ?_
  (conv => whnf)
  rw [hn]
  generalize nJ l p = n at *
  refine loop_intro (fun k : Nat => ⟨[(0, .one (.vptr 0 0)), (2, .one (.vptr 1 0)), (3, .one (.vptr 2 0)), (4, I n), (5, I k)], [(0, SrcJ l (jPos l (p + 1) k)), (1, .vars Y.Robot [.nil 12, .nil 5]), (2, .vars Y.Robot [.row 3, .nil 5]), (3, .rows Y.Joint 12 ((mkJoints l (p + 1) k).map encJ))], 4⟩) (fun k => k ≤ n) (fun k => n - k) [.ownC 2 0 Y.Joint 12] 0 [] (Nat.zero_le _) ⟨⟨rfl, rfl, rfl, rfl, rfl, trivial⟩, ⟨rfl, rfl, rfl, rfl, trivial⟩⟩ ?_
  rintro k hk
  (conv => whnf)
  refine ask_m (fun h => ?_) (fun h => ?_)
  · have hlt : k < n := by have := of_decide_eq_true h; omega
    (conv => whnf)
    refine call_i (mk_joint l (jPos l (p + 1) k) k hl (by omega)) ?_
    (conv => whnf)
    have hlen : (mkJoints l (p + 1) k).length = k := by simp [mkJoints]
    have hkk : IntKind.i64.wrap ((k : Int) + 1) = ((k + 1 : Nat) : Int) := by rw [w64] <;> omega
    refine ⟨⟨by simp; omega, by simp; omega⟩, ?_⟩
    (conv => whnf)
    refine ⟨k + 1, [(3, 5)], hlt, by omega, ⟨⟨rfl, rfl, rfl, rfl, eqI hkk, trivial⟩, ⟨rfl, rfl, rfl, ?_, trivial⟩⟩⟩
    rw [mkJoints_succ, List.map_append]; rfl
  · have hk : k = n := by have := of_decide_eq_false h; omega
    subst hk
    (conv => whnf)
    refine call_i (mk_Next l (jPos l (p + 1) k) 3 (by omega) (by omega) hl) ?_
    (conv => whnf)
    generalize hq : jPos l (p + 1) k = q
    have c0 := nxt_bd (l := l) (j := q) (m := 3) (by omega)
    obtain ⟨c, hc⟩ : ∃ c : Nat, nxt l q 3 = c := ⟨(nxt l q 3).toNat, by omega⟩
    rw [hc, Int.toNat_natCast]
    refine loop_intro (fun i : Nat => ⟨[(0, .one (.vptr 0 0)), (2, .one (.vptr 1 0)), (3, .one (.vptr 2 0)), (4, I k), (6, I ((c : Int) - i))], [(0, SrcJ l (q + 1 + 4 * i)), (1, .vars Y.Robot [.nil 12, .nil 5]), (2, .vars Y.Robot [.row 3, .row 4]), (3, .rows Y.Joint 12 ((mkJoints l (p + 1) k).map encJ)), (4, .rows Y.Mass 5 ((mkMasses l k q i).map encM))], 5⟩) (fun i => i ≤ c) (fun i => c - i) [.ownC 2 1 Y.Mass 5] 0 [] (Nat.zero_le _) ⟨⟨rfl, rfl, rfl, rfl, eqI (by simp), trivial⟩, ⟨rfl, rfl, rfl, rfl, rfl, trivial⟩⟩ ?_
    rintro i hi
    (conv => whnf)
    refine ask_m (fun h => ?_) (fun h => ?_)
    · have hlt : i < c := by have := of_decide_eq_true h; omega
      (conv => whnf)
      refine call_i (mk_Next l (q + 1 + 4 * i) k (by omega) (by omega) hl) ?_
      (conv => whnf)
      refine call_i (mk_Next l (q + 1 + 4 * i + 1) 9000 (by omega) (by omega) hl) ?_
      (conv => whnf)
      refine call_i (mk_Signed l (q + 1 + 4 * i + 2) 3 7 (by omega) (by omega) (by omega) hl) ?_
      (conv => whnf)
      refine call_i (mk_Signed l (q + 1 + 4 * i + 3) 2 5 (by omega) (by omega) (by omega) hl) ?_
      (conv => whnf)
      have hlen : (mkMasses l k q i).length = i := by simp [mkMasses]
      refine ⟨⟨by simp; omega, by simp; omega⟩, ?_⟩
      (conv => whnf)
      have s1 := nxt_bd (l := l) (j := q + 1 + 4 * i + 1) (m := 9000) (by omega)
      have s2 := nxt_bd (l := l) (j := q + 1 + 4 * i + 2) (m := 7) (by omega)
      have s3 := nxt_bd (l := l) (j := q + 1 + 4 * i + 3) (m := 5) (by omega)
      refine ⟨i + 1, [(4, 6)], hlt, by omega, ⟨⟨rfl, rfl, rfl, rfl, eqI ?_, trivial⟩, ⟨?_, rfl, rfl, rfl, ?_, trivial⟩⟩⟩
      · rw [w64] <;> omega
      · rw [show q + 1 + 4 * (i + 1) = q + 1 + 4 * i + 4 by omega]; rfl
      · rw [mkMasses_succ, List.map_append, show IntKind.i64.wrap (1 + nxt l (q + 1 + 4 * i + 1) 9000) = 1 + nxt l (q + 1 + 4 * i + 1) 9000 by rw [w64] <;> omega, show IntKind.i64.wrap ((nxt l (q + 1 + 4 * i + 2) 7 - 3) * 32768) = (nxt l (q + 1 + 4 * i + 2) 7 - 3) * 32768 by rw [w64] <;> omega, show IntKind.i64.wrap ((nxt l (q + 1 + 4 * i + 3) 5 - 2) * 32768) = (nxt l (q + 1 + 4 * i + 3) 5 - 2) * 32768 by rw [w64] <;> omega]
        rfl
    · have hi : i = c := by have := of_decide_eq_false h; omega
      subst hi
      (conv => whnf)
      refine retO [.frz 3, .frz 4] ?_
      (conv => whnf)
      exact ⟨[], ⟨rfl, trivial⟩, ⟨rfl, trivial⟩⟩
end Go.Proofs.YthdbdokhncaijaaGreat

/- The makers: scenes. -/
namespace Go.Proofs.YthdbdokhncaijaaGreat
open Eng
set_option maxRecDepth 10000
attribute [local irreducible] FnOk loopW idxF retX arrF

def shPos (l : List Int) (q : Nat) : Nat → Nat
  | 0 => q
  | k + 1 => if nxt l (shPos l q k) 5 < 4 then mkPtsAt l (shPos l q k + 3) else shPos l q k + 1
def shOf (l : List Int) (q i : Nat) : List Shape := if nxt l q 5 < 4 then [⟨i, (1 + nxt l (q + 1) 3) * 8192, mkPts l ⟨nxt l (q + 2) 4 * 32768, 0, 0⟩ (q + 3)⟩] else []
def shLinks (l : List Int) (q k : Nat) : List Shape := (List.range k).flatMap fun i => shOf l (shPos l q i) i
theorem shLinks_succ (l : List Int) (q k : Nat) : shLinks l q (k + 1) = shLinks l q k ++ shOf l (shPos l q k) k := by
  simp [shLinks, List.range_succ]
theorem shLinks_len (l : List Int) (q k : Nat) : (shLinks l q k).length ≤ k := by
  induction k with
  | zero => simp [shLinks]
  | succ k ih =>
    rw [shLinks_succ, List.length_append]
    have : (shOf l (shPos l q k) k).length ≤ 1 := by unfold shOf; split <;> simp
    omega
def wPos (l : List Int) (q : Nat) : Nat → Nat
  | 0 => q
  | k + 1 => mkPtsAt l (wPos l q k + 4)
def shW (l : List Int) (q : Nat) : Shape := ⟨-1, (1 + nxt l (q + 3) 4) * 8192, mkPts l ⟨(nxt l q 19 - 9) * 32768, (nxt l (q + 1) 19 - 9) * 32768, (nxt l (q + 2) 5 - 2) * 32768⟩ (q + 4)⟩
def shWs (l : List Int) (q k : Nat) : List Shape := (List.range k).map fun i => shW l (wPos l q i)
theorem shWs_succ (l : List Int) (q k : Nat) : shWs l q (k + 1) = shWs l q k ++ [shW l (wPos l q k)] := by
  simp [shWs, List.range_succ]
def scQ1 (l : List Int) : Nat := shPos l (mkRobotAt l 0) (mkRobot l 0).joints.length
def scN (l : List Int) : Nat := 1 + (nxt l (scQ1 l) 3).toNat
def scQ2 (l : List Int) : Nat := wPos l (scQ1 l + 1) (scN l)
def mkSkips (l : List Int) (q n : Nat) : List Skip := if nxt l q 5 = 1 then [⟨-1, nxt l (q + 1) n⟩] else []
def mkScene (l : List Int) : Scene := ⟨mkRobot l 0, shLinks l (mkRobotAt l 0) (mkRobot l 0).joints.length ++ shWs l (scQ1 l + 1) (scN l), mkSkips l (scQ2 l) (mkRobot l 0).joints.length⟩
theorem w_rad {a : Int} (h0 : 0 ≤ a) (h1 : a < 4) : IntKind.i64.wrap ((IntKind.i64.wrap (IntKind.i64.wrap (1 + a) * 65536)).tdiv 8) = (1 + a) * 8192 := by
  rw [w64 (x := 1 + a) (by omega) (by omega), w64 (x := (1 + a) * 65536) (by omega) (by omega), show (1 + a) * 65536 = ((1 + a) * 8192) * 8 by omega, Int.mul_tdiv_cancel _ (by decide), w64] <;> omega
theorem near_mk {x y z : Int} (hx : -1099511627776 ≤ x ∧ x ≤ 1099511627776) (hy : -1099511627776 ≤ y ∧ y ≤ 1099511627776) (hz : -1099511627776 ≤ z ∧ z ≤ 1099511627776) : near ⟨x, y, z⟩ := ⟨hx, hy, hz⟩
theorem joints_len (l : List Int) (p : Nat) : 1 ≤ (mkRobot l p).joints.length ∧ (mkRobot l p).joints.length ≤ 3 := by
  have := nxt_bd (l := l) (j := p) (m := 3) (by omega)
  simp [mkRobot, mkJoints, nJ]; omega
theorem mk_Scene (l : List Int) (hl : l.length ≤ 4611686018427387904) : FnOk Tryz.prog F.mk_Scene [Li l] [] 0 (Sc (mkScene l)) [] 0 := by
  refine fnOk tab mix G.mk_Scene rfl rfl (by kernel_rfl) rfl rfl ?_
  have hn := joints_len l 0
  have hS : mkScene l = ⟨mkRobot l 0, shLinks l (mkRobotAt l 0) (mkRobot l 0).joints.length ++ shWs l (scQ1 l + 1) (scN l), mkSkips l (scQ2 l) (mkRobot l 0).joints.length⟩ := rfl
  rw [hS, scQ2, scN, scQ1]
  (conv => whnf)
  refine call_i (mk_From l) ?_
  (conv => whnf)
  refine call_i (mk_robot l 0 hl) ?_
  (conv => whnf)
  generalize mkRobot l 0 = r at *
  generalize mkRobotAt l 0 = q0
  refine loop_intro (fun k : Nat => ⟨[(2, .one (.vptr 0 0)), (3, .one (.vptr 1 0)), (4, .one (.vptr 2 0)), (5, I k)], [(0, .vars Y.Scene [.nil 12, .nil 5, .nil 3, .nil 2]), (1, SrcJ l (shPos l q0 k)), (2, .vars Y.Scene [.dv (dJs r.joints), .dv (dMs r.masses), .row 3, .nil 2]), (3, .rows Y.Shape 3 ((shLinks l q0 k).map encSh))], 4⟩) (fun k => k ≤ r.joints.length) (fun k => r.joints.length - k) [.ownC 2 2 Y.Shape 3] 0 [] (Nat.zero_le _) ⟨⟨rfl, rfl, rfl, rfl, trivial⟩, ⟨rfl, rfl, rfl, rfl, trivial⟩⟩ ?_
  rintro k hk
  (conv => whnf)
  refine ask_m (fun h => ?_) (fun h => ?_)
  · have hlt : k < r.joints.length := by simpa using h
    have hkk : IntKind.i64.wrap ((k : Int) + 1) = ((k + 1 : Nat) : Int) := by rw [w64] <;> omega
    have hll := shLinks_len l q0 k
    have hsucc := shLinks_succ l q0 k
    have hpos : shPos l q0 (k + 1) = if nxt l (shPos l q0 k) 5 < 4 then mkPtsAt l (shPos l q0 k + 3) else shPos l q0 k + 1 := rfl
    generalize shPos l q0 k = q at *
    (conv => whnf)
    refine call_i (mk_Next l q 5 (by omega) (by omega) hl) ?_
    (conv => whnf)
    refine ask_m (fun h => ?_) (fun h => ?_)
    · have h := of_decide_eq_true h
      rw [if_pos h] at hpos
      rw [shOf, if_pos h] at hsucc
      have s1 := nxt_bd (l := l) (j := q + 1) (m := 3) (by omega)
      have s2 := nxt_bd (l := l) (j := q + 2) (m := 4) (by omega)
      (conv => whnf)
      refine call_i (mk_Next l (q + 1) 3 (by omega) (by omega) hl) ?_
      (conv => whnf)
      refine ⟨by omega, ?_⟩
      (conv => whnf)
      refine call_i (mk_Next l (q + 2) 4 (by omega) (by omega) hl) ?_
      (conv => whnf)
      rw [w64 (x := nxt l (q + 2) 4 * 32768) (by omega) (by omega), w_rad s1.1 (by omega)]
      refine call_i (mk_points l (q + 3) ⟨nxt l (q + 2) 4 * 32768, 0, 0⟩ hl (near_mk (by omega) (by omega) (by omega))) ?_
      (conv => whnf)
      refine ⟨⟨by simp; omega, by simp; omega⟩, ?_⟩
      (conv => whnf)
      refine ⟨k + 1, [(3, 5)], hlt, by omega, ⟨⟨rfl, rfl, rfl, eqI hkk, trivial⟩, ⟨rfl, ?_, rfl, ?_, trivial⟩⟩⟩
      · rw [hpos]; rfl
      · rw [hsucc, List.map_append]; rfl
    · have h := of_decide_eq_false h
      rw [if_neg h] at hpos
      rw [shOf, if_neg h, List.append_nil] at hsucc
      (conv => whnf)
      refine ⟨k + 1, [], hlt, by omega, ⟨⟨rfl, rfl, rfl, eqI hkk, trivial⟩, ⟨rfl, ?_, rfl, ?_, trivial⟩⟩⟩
      · rw [hpos]; rfl
      · rw [hsucc]; rfl
  · have hk : k = r.joints.length := by simp at h; omega
    subst hk
    generalize hq1 : shPos l q0 r.joints.length = q1
    have hll := shLinks_len l q0 r.joints.length
    generalize shLinks l q0 r.joints.length = ls at *
    have c0 := nxt_bd (l := l) (j := q1) (m := 3) (by omega)
    obtain ⟨c, hc⟩ : ∃ c : Nat, 1 + (nxt l q1 3).toNat = c := ⟨_, rfl⟩
    have hc1 : IntKind.i64.wrap (1 + nxt l q1 3) = (c : Int) := by rw [w64] <;> omega
    rw [hc]
    (conv => whnf)
    refine call_i (mk_Next l q1 3 (by omega) (by omega) hl) ?_
    (conv => whnf)
    rw [hc1]
    refine loop_intro (fun k : Nat => ⟨[(2, .one (.vptr 0 0)), (3, .one (.vptr 1 0)), (4, .one (.vptr 2 0)), (6, I ((c : Int) - k))], [(0, .vars Y.Scene [.nil 12, .nil 5, .nil 3, .nil 2]), (1, SrcJ l (wPos l (q1 + 1) k)), (2, .vars Y.Scene [.dv (dJs r.joints), .dv (dMs r.masses), .row 3, .nil 2]), (3, .rows Y.Shape 3 ((ls ++ shWs l (q1 + 1) k).map encSh))], 4⟩) (fun k => k ≤ c) (fun k => c - k) [] 0 [] (Nat.zero_le _) ⟨⟨rfl, rfl, rfl, eqI (by simp), trivial⟩, ⟨rfl, rfl, rfl, ?_, trivial⟩⟩ ?_
    · simp [shWs]; rfl
    rintro k hk
    (conv => whnf)
    refine ask_m (fun h => ?_) (fun h => ?_)
    · have hlt : k < c := by have := of_decide_eq_true h; omega
      have hlen : (shWs l (q1 + 1) k).length = k := by simp [shWs]
      have hsucc := shWs_succ l (q1 + 1) k
      have hpos : wPos l (q1 + 1) (k + 1) = mkPtsAt l (wPos l (q1 + 1) k + 4) := rfl
      generalize wPos l (q1 + 1) k = q at *
      have s0 := nxt_bd (l := l) (j := q) (m := 19) (by omega)
      have s1 := nxt_bd (l := l) (j := q + 1) (m := 19) (by omega)
      have s2 := nxt_bd (l := l) (j := q + 2) (m := 5) (by omega)
      have s3 := nxt_bd (l := l) (j := q + 3) (m := 4) (by omega)
      (conv => whnf)
      refine call_i (mk_Signed l q 9 19 (by omega) (by omega) (by omega) hl) ?_
      (conv => whnf)
      refine call_i (mk_Signed l (q + 1) 9 19 (by omega) (by omega) (by omega) hl) ?_
      (conv => whnf)
      refine call_i (mk_Signed l (q + 2) 2 5 (by omega) (by omega) (by omega) hl) ?_
      (conv => whnf)
      refine call_i (mk_Next l (q + 3) 4 (by omega) (by omega) hl) ?_
      (conv => whnf)
      refine ⟨by omega, ?_⟩
      (conv => whnf)
      rw [w64 (x := (nxt l q 19 - 9) * 32768) (by omega) (by omega), w64 (x := (nxt l (q + 1) 19 - 9) * 32768) (by omega) (by omega), w64 (x := (nxt l (q + 2) 5 - 2) * 32768) (by omega) (by omega), w_rad s3.1 s3.2]
      refine call_i (mk_points l (q + 4) ⟨(nxt l q 19 - 9) * 32768, (nxt l (q + 1) 19 - 9) * 32768, (nxt l (q + 2) 5 - 2) * 32768⟩ hl (near_mk (by omega) (by omega) (by omega))) ?_
      (conv => whnf)
      refine ⟨⟨by simp; omega, by simp; omega⟩, ?_⟩
      (conv => whnf)
      refine ⟨k + 1, [(3, 6)], hlt, by omega, ⟨⟨rfl, rfl, rfl, eqI ?_, trivial⟩, ⟨rfl, ?_, rfl, ?_, trivial⟩⟩⟩
      · rw [w64] <;> omega
      · rw [hpos]; rfl
      · show Box.rows Y.Shape 3 _ = Box.rows Y.Shape 3 _
        refine congrArg _ ?_
        rw [hsucc, show ls ++ (shWs l (q1 + 1) k ++ [shW l q]) = (ls ++ shWs l (q1 + 1) k) ++ [shW l q] by rw [List.append_assoc], List.map_append (l₁ := ls ++ shWs l (q1 + 1) k)]; rfl
    · have hk : k = c := by have := of_decide_eq_false h; omega
      subst hk
      generalize wPos l (q1 + 1) k = q at *
      (conv => whnf)
      refine call_i (mk_Next l q 5 (by omega) (by omega) hl) ?_
      (conv => whnf)
      refine ask_m (fun h => ?_) (fun h => ?_)
      · have h : nxt l q 5 = 1 := by simpa using h
        rw [mkSkips, if_pos h]
        (conv => whnf)
        rw [List.length_map]
        refine call_i (mk_Next l (q + 1) r.joints.length (by omega) (by omega) hl) ?_
        (conv => whnf)
        refine ⟨⟨by simp, by simp⟩, ?_⟩
        (conv => whnf)
        refine retO [.frz 3, .frz 5] ?_
        (conv => whnf)
        exact ⟨[], ⟨rfl, trivial⟩, trivial⟩
      · have h : ¬ nxt l q 5 = 1 := by simpa using h
        rw [mkSkips, if_neg h]
        (conv => whnf)
        refine retO [.frz 3, .ownC 0 3 Y.Skip 2, .frz 4] ?_
        (conv => whnf)
        exact ⟨[], ⟨rfl, trivial⟩, trivial⟩
end Go.Proofs.YthdbdokhncaijaaGreat

/- What the makers make is valid. No program in sight. -/
namespace Go.Proofs.YthdbdokhncaijaaGreat
open Eng
set_option maxRecDepth 10000

/-- what is asked of a joint but for its name -/
theorem inV_mk {x y z m : Int} (h1 : -m ≤ x ∧ x ≤ m) (h2 : -m ≤ y ∧ y ≤ m) (h3 : -m ≤ z ∧ z ≤ m) : inV ⟨x, y, z⟩ m = true := by
  simp [inV]; omega
theorem letter_name : ∀ k, k < 10 → nameOk (letter k) = true := by decide
theorem letter_ne : ∀ k, k < 10 → ∀ j, j < 10 → letter k = letter j → k = j := by decide
theorem kindOf_mem {n : Int} (h0 : 0 ≤ n) (h8 : n < 8) : kindOf n = 3 ∨ kindOf n = 1 ∨ kindOf n = 2 ∨ kindOf n = 4 ∨ kindOf n = 5 ∨ kindOf n = 0 := by
  obtain ⟨k, rfl⟩ : ∃ k : Nat, n = k := ⟨n.toNat, by omega⟩
  rw [kindOf, Int.toNat_natCast]
  match k, h8 with
  | 0, _ | 1, _ | 2, _ | 3, _ | 4, _ | 5, _ | 6, _ | 7, _ => decide
  | k + 8, h => omega
theorem mkJoint_body (l : List Int) (p i : Nat) : bodyOk i (mkJoint l p i) := by
  have hk := kindOf_mem (nxt_bd (l := l) (j := p + 2) (m := 8) (by omega)).1 (nxt_bd (l := l) (j := p + 2) (m := 8) (by omega)).2
  refine ⟨?_, ?_, ?_, ?_, ?_⟩
  · show 0 ≤ kindOf _ ∧ kindOf _ ≤ 6
    omega
  · show -1 ≤ jParent l p i ∧ jParent l p i < (i : Int)
    unfold jParent; split <;> omega
  · show inV (jOff l p i) _ = true
    have h1 := nxt_bd (l := l) (j := p + 4) (m := 5) (by omega)
    have h2 := nxt_bd (l := l) (j := p + 5) (m := 3) (by omega)
    unfold jOff; split
    · exact inV_mk (by omega) (by omega) (by omega)
    · rfl
  · show (jSpan l (jAt p i) (jKind l p)).1 ≤ (jSpan l (jAt p i) (jKind l p)).2.1 ∧ - reach (jKind l p) ≤ (jSpan l (jAt p i) (jKind l p)).1 ∧ (jSpan l (jAt p i) (jKind l p)).2.1 ≤ reach (jKind l p)
    generalize jAt p i = q
    have h1 := nxt_bd (l := l) (j := q) (m := 3) (by omega)
    have h2 := nxt_bd (l := l) (j := q + 1) (m := 4) (by omega)
    have h3 := nxt_bd (l := l) (j := q) (m := 5) (by omega)
    have h4 := nxt_bd (l := l) (j := q + 2) (m := 3) (by omega)
    have hk' : jKind l p = 3 ∨ jKind l p = 1 ∨ jKind l p = 2 ∨ jKind l p = 4 ∨ jKind l p = 5 ∨ jKind l p = 0 := hk
    rcases hk' with e | e | e | e | e | e <;> rw [e] <;> simp [jSpan, reach] <;> omega
  · show (from1 (1 + nxt l p 4) 1024 && from1 65536 1048576 && from1 (65536 + nxt l (p + 1) 3) 1048576 && from1 327680 1099511627776) = true
    have h1 := nxt_bd (l := l) (j := p) (m := 4) (by omega)
    have h2 := nxt_bd (l := l) (j := p + 1) (m := 3) (by omega)
    simp [from1]; omega
theorem mkJoints_at {l : List Int} {p n k : Nat} {j : Joint} (h : (mkJoints l p n)[k]? = some j) : k < n ∧ j = mkJoint l (jPos l p k) k := by
  unfold mkJoints at h
  rw [List.getElem?_map] at h
  simp only [Option.map_eq_some_iff] at h
  obtain ⟨i, hi, rfl⟩ := h
  obtain ⟨h1, h2⟩ := List.getElem?_eq_some_iff.1 hi
  simp at h1 h2
  subst h2
  exact ⟨h1, rfl⟩
theorem mkJoints_ok (l : List Int) (p n : Nat) (hn : n ≤ 10) : jointsErr (mkJoints l p n) 0 (mkJoints l p n) = 0 := by
  refine jointsErr_zero fun k j hj => ?_
  obtain ⟨h1, h2⟩ := mkJoints_at hj
  rw [Nat.zero_add]
  refine jointErr_zero ?_ ?_ ?_
  · rw [h2]; exact letter_name k (by omega)
  · have := find_at (k := 0) hj fun i' j' hi hj' e => by
      obtain ⟨h3, h4⟩ := mkJoints_at hj'
      rw [h2, h4] at e
      have := letter_ne i' (by omega) k (by omega) e
      omega
    rw [this]; simp
  · rw [h2]; exact mkJoint_body l _ k
theorem linkOk_mk {n : Nat} {k : Int} (h1 : -1 ≤ k) (h2 : k < (n : Int)) : linkOk n k = true := by simp [linkOk]; omega
theorem massOk_mk {n : Nat} {a b : Int} {v : Vec} (h1 : 0 ≤ a) (h2 : a < (n : Int)) (h3 : 1 ≤ b) (h4 : b ≤ 65536) (h5 : inV v 4194304 = true) : massOk n ⟨a, b, v⟩ = true := by simp [massOk, from1, h5]; omega
theorem mkMass_ok (l : List Int) (n q : Nat) (hn : 0 < n) : massOk n (mkMass l n q) = true := by
  have h1 := nxt_bd (l := l) (j := q) (m := n) (by omega)
  have h2 := nxt_bd (l := l) (j := q + 1) (m := 9000) (by omega)
  have h3 := nxt_bd (l := l) (j := q + 2) (m := 7) (by omega)
  have h4 := nxt_bd (l := l) (j := q + 3) (m := 5) (by omega)
  have h5 : inV ⟨(nxt l (q + 2) 7 - 3) * 32768, 0, (nxt l (q + 3) 5 - 2) * 32768⟩ 4194304 = true := inV_mk (by omega) (by omega) (by omega)
  exact massOk_mk h1.1 h1.2 (by omega) (by omega) h5
theorem robot_valid {r : Robot} (h1 : 1 ≤ r.joints.length) (h2 : r.joints.length ≤ 10) (h3 : jointsErr r.joints 0 r.joints = 0) (h4 : r.masses.length ≤ 32) (h5 : r.masses.all (massOk r.joints.length) = true) : checkRobot r = 0 := by
  unfold checkRobot
  rw [if_neg (by omega), if_neg (by rw [h3]; simp), if_neg (by rw [h5]; simp; omega)]
theorem nJ_bd (l : List Int) (p : Nat) : 1 ≤ nJ l p ∧ nJ l p ≤ 3 := by
  have := nxt_bd (l := l) (j := p) (m := 3) (by omega)
  unfold nJ; omega
theorem mkJoints_len (l : List Int) (p n : Nat) : (mkJoints l p n).length = n := by simp [mkJoints]
theorem mkRobot_ok (l : List Int) (p : Nat) : checkRobot (mkRobot l p) = 0 := by
  have hn := nJ_bd l p
  have hl : (mkRobot l p).joints.length = nJ l p := mkJoints_len l (p + 1) (nJ l p)
  have hm := nxt_bd (l := l) (j := qM l p) (m := 3) (by omega)
  refine robot_valid (by omega) (by omega) (mkJoints_ok l (p + 1) (nJ l p) (by omega)) ?_ ?_
  · simp [mkRobot, mkMasses, nM]; omega
  · rw [hl, List.all_eq_true]
    intro m hmm
    simp only [mkRobot, mkMasses, List.mem_map] at hmm
    obtain ⟨i, _, rfl⟩ := hmm
    exact mkMass_ok l (nJ l p) _ (by omega)
theorem shapesErr_zero {n : Nat} : ∀ {l : List Shape}, (∀ x ∈ l, shapeErr n x = 0) → shapesErr n l = 0
  | [], _ => rfl
  | x :: l, h => by rw [shapesErr, if_pos (h x (by simp))]; exact shapesErr_zero fun y hy => h y (by simp [hy])
theorem shapeErr_zero {n : Nat} {x : Shape} (h1 : linkOk n x.link = true) (h2 : 1 ≤ x.radius ∧ x.radius ≤ 1048576) (h3 : 1 ≤ x.points.length ∧ x.points.length ≤ 8) (h4 : x.points.all (inV · 4194304) = true) : shapeErr n x = 0 := by
  unfold shapeErr
  rw [if_neg (by rw [h1]; rintro (h | h | h | h | h) <;> first | contradiction | omega), if_neg (by rw [h4]; simp)]
theorem mkPts_len (l : List Int) (b : Vec) (p : Nat) : 1 ≤ (mkPts l b p).length ∧ (mkPts l b p).length ≤ 4 := by
  have := nxt_bd (l := l) (j := p) (m := 4) (by omega)
  simp [mkPts, ptsTo, nPts]; omega
theorem mkPts_in (l : List Int) (b : Vec) (p : Nat) (hx : -1048576 ≤ b.x ∧ b.x ≤ 1048576) (hy : -1048576 ≤ b.y ∧ b.y ≤ 1048576) (hz : -1048576 ≤ b.z ∧ b.z ≤ 1048576) : (mkPts l b p).all (inV · 4194304) = true := by
  rw [List.all_eq_true]
  intro v hv
  simp only [mkPts, ptsTo, List.mem_cons, List.mem_map] at hv
  rcases hv with rfl | ⟨i, _, rfl⟩
  · obtain ⟨x, y, z⟩ := v
    simp only at hx hy hz
    exact inV_mk (by omega) (by omega) (by omega)
  · have h1 := nxt_bd (l := l) (j := p + 1 + 3 * i) (m := 7) (by omega)
    have h2 := nxt_bd (l := l) (j := p + 1 + 3 * i + 1) (m := 5) (by omega)
    have h3 := nxt_bd (l := l) (j := p + 1 + 3 * i + 2) (m := 5) (by omega)
    exact inV_mk (by omega) (by omega) (by omega)
theorem shOf_ok {l : List Int} {q i n : Nat} (hi : i < n) {x : Shape} (h : x ∈ shOf l q i) : shapeErr n x = 0 := by
  unfold shOf at h
  split at h
  · simp only [List.mem_singleton] at h
    subst h
    have h1 := nxt_bd (l := l) (j := q + 1) (m := 3) (by omega)
    have h2 := nxt_bd (l := l) (j := q + 2) (m := 4) (by omega)
    have h3 := mkPts_len l ⟨nxt l (q + 2) 4 * 32768, 0, 0⟩ (q + 3)
    refine shapeErr_zero ?_ ⟨?_, ?_⟩ ⟨h3.1, Nat.le_trans h3.2 (by decide)⟩ (mkPts_in l _ _ ⟨?_, ?_⟩ ⟨?_, ?_⟩ ⟨?_, ?_⟩)
    · simp [linkOk]; omega
    all_goals (simp only; omega)
  · simp at h
theorem shW_ok (l : List Int) (q n : Nat) : shapeErr n (shW l q) = 0 := by
  have h0 := nxt_bd (l := l) (j := q) (m := 19) (by omega)
  have h1 := nxt_bd (l := l) (j := q + 1) (m := 19) (by omega)
  have h2 := nxt_bd (l := l) (j := q + 2) (m := 5) (by omega)
  have h3 := nxt_bd (l := l) (j := q + 3) (m := 4) (by omega)
  have h4 := mkPts_len l ⟨(nxt l q 19 - 9) * 32768, (nxt l (q + 1) 19 - 9) * 32768, (nxt l (q + 2) 5 - 2) * 32768⟩ (q + 4)
  refine shapeErr_zero ?_ ⟨?_, ?_⟩ ⟨h4.1, Nat.le_trans h4.2 (by decide)⟩ (mkPts_in l _ _ ⟨?_, ?_⟩ ⟨?_, ?_⟩ ⟨?_, ?_⟩)
  · exact linkOk_mk (k := -1) (by omega) (by omega)
  all_goals (simp only [shW]; omega)
theorem scene_valid {s : Scene} (h1 : checkRobot s.robot = 0) (h2 : s.shapes.length ≤ 24) (h3 : ∀ x ∈ s.shapes, shapeErr s.robot.joints.length x = 0) (h4 : s.skips.length ≤ 64) (h5 : (s.skips.all fun k => linkOk s.robot.joints.length k.a && linkOk s.robot.joints.length k.b) = true) : checkScene s = 0 := by
  unfold checkScene
  rw [if_neg (by rw [h1]; simp), if_neg (by omega), if_neg (by rw [shapesErr_zero h3]; simp), if_neg (by omega), if_neg (by rw [h5]; simp)]
theorem mkScene_len (l : List Int) : (mkScene l).shapes.length ≤ 6 ∧ (mkScene l).skips.length ≤ 1 ∧ (mkScene l).robot.masses.length ≤ 2 := by
  have hn := joints_len l 0
  have h1 := shLinks_len l (mkRobotAt l 0) (mkRobot l 0).joints.length
  have h2 := nxt_bd (l := l) (j := scQ1 l) (m := 3) (by omega)
  have h3 := nxt_bd (l := l) (j := qM l 0) (m := 3) (by omega)
  refine ⟨?_, ?_, ?_⟩
  · simp only [mkScene, List.length_append, shWs, List.length_map, List.length_range, scN]; omega
  · simp only [mkScene, mkSkips]; split <;> simp
  · simp [mkScene, mkRobot, mkMasses, nM]; omega
theorem mkScene_ok (l : List Int) : checkScene (mkScene l) = 0 := by
  have hn := joints_len l 0
  obtain ⟨k1, k2, _⟩ := mkScene_len l
  refine scene_valid (mkRobot_ok l 0) (by omega) (fun x hx => ?_) (by omega) ?_
  · simp only [mkScene, List.mem_append, shLinks, List.mem_flatMap, List.mem_range, shWs, List.mem_map] at hx
    rcases hx with ⟨i, hi, hx⟩ | ⟨i, _, rfl⟩
    · exact shOf_ok hi hx
    · exact shW_ok l _ _
  · rw [List.all_eq_true]
    intro k hk
    simp only [mkScene, mkSkips] at hk
    split at hk
    · simp only [List.mem_singleton] at hk
      subst hk
      have := nxt_bd (l := l) (j := scQ2 l + 1) (m := ((mkRobot l 0).joints.length : Int)) (by omega)
      rw [Bool.and_eq_true]
      exact ⟨linkOk_mk (k := -1) (by omega) (by omega), linkOk_mk (k := nxt l (scQ2 l + 1) ((mkRobot l 0).joints.length : Int)) (by omega) this.2⟩
    · simp at hk
theorem mkScene_small (l : List Int) : small (mkScene l) := by
  have hn := joints_len l 0
  obtain ⟨k1, k2, k3⟩ := mkScene_len l
  refine ⟨by show (mkRobot l 0).joints.length ≤ _; omega, by omega, by omega, by omega, fun x hx => ?_⟩
  simp only [mkScene, List.mem_append, shLinks, List.mem_flatMap, List.mem_range, shWs, List.mem_map] at hx
  rcases hx with ⟨i, hi, hx⟩ | ⟨i, _, rfl⟩
  · unfold shOf at hx
    split at hx
    · simp only [List.mem_singleton] at hx
      subst hx
      have := mkPts_len l ⟨nxt l (shPos l (mkRobotAt l 0) i + 2) 4 * 32768, 0, 0⟩ (shPos l (mkRobotAt l 0) i + 3)
      simp only; omega
    · simp at hx
  · unfold shW
    simp only
    generalize wPos l (scQ1 l + 1) i = q
    have := mkPts_len l ⟨(nxt l q 19 - 9) * 32768, (nxt l (q + 1) 19 - 9) * 32768, (nxt l (q + 2) 5 - 2) * 32768⟩ (q + 4)
    omega
end Go.Proofs.YthdbdokhncaijaaGreat

/- mk.Slider, mk.Track. -/
namespace Go.Proofs.YthdbdokhncaijaaGreat
open Eng
set_option maxRecDepth 10000
attribute [local irreducible] FnOk loopW idxF retX arrF

def sliderJ (hi : Int) (i : Nat) : Joint := ⟨letter i, 4 + (i % 2 : Nat), (i : Int) - 1, ⟨0, 0, 0⟩, 0, hi, 1, 65536, 65536, 65536⟩
def slider (n : Nat) (hi : Int) : Robot := ⟨(List.range n).map (sliderJ hi), []⟩
theorem mk_Slider (n : Nat) (hi : Int) (hn : n ≤ 10) : FnOk Tryz.prog F.mk_Slider [I n, I hi] [] 0 (Ro (slider n hi)) [] 0 := by
  refine fnOk tab mix G.mk_Slider rfl rfl (by kernel_rfl) rfl rfl ?_
  (conv => whnf)
  refine loop_intro (fun k : Nat => ⟨[(0, I n), (1, I hi), (4, .one (.vptr 0 0)), (5, .one (.vptr 1 0)), (6, I k)], [(0, .vars Y.Robot [.nil 12, .nil 5]), (1, .vars Y.Robot [.row 2, .nil 5]), (2, .rows Y.Joint 12 (((List.range k).map (sliderJ hi)).map encJ))], 3⟩) (fun k => k ≤ n) (fun k => n - k) [.ownC 1 0 Y.Joint 12] 0 [] (Nat.zero_le _) ⟨⟨rfl, rfl, rfl, rfl, rfl, trivial⟩, ⟨rfl, rfl, rfl, trivial⟩⟩ ?_
  rintro k hk
  have hkk : IntKind.i64.wrap ((k : Int) + 1) = ((k + 1 : Nat) : Int) := by rw [w64] <;> omega
  have e1 : IntKind.i64.wrap (4 + (k : Int).tmod 2) = 4 + ((k % 2 : Nat) : Int) := by
    rw [Int.tmod_eq_emod_of_nonneg (by omega), w64] <;> omega
  have e2 : IntKind.i64.wrap ((k : Int) - 1) = (k : Int) - 1 := by rw [w64] <;> omega
  (conv => whnf)
  refine ask_m (fun h => ?_) (fun h => ?_)
  · have hlt : k < n := by have := of_decide_eq_true h; omega
    (conv => whnf)
    refine call_i (mk_letter k (by omega)) ?_
    (conv => whnf)
    refine ⟨(by decide : (2 : Int) ≠ 0), ?_⟩
    (conv => whnf)
    refine ⟨⟨by simp; omega, by simp; omega⟩, ?_⟩
    (conv => whnf)
    refine ⟨k + 1, [(2, 4)], hlt, by omega, ⟨⟨rfl, rfl, rfl, rfl, eqI hkk, trivial⟩, ⟨rfl, rfl, ?_, trivial⟩⟩⟩
    rw [e1, e2, range_enc]; rfl
  · have hk : k = n := by have := of_decide_eq_false h; omega
    subst hk
    (conv => whnf)
    (conv => whnf)
    refine retO [.ownC 0 1 Y.Mass 5, .frz 2, .frz 3] ?_
    (conv => whnf)
    exact ⟨[], ⟨rfl, trivial⟩, trivial⟩
def tkP (l : List Int) (q : Nat) : List Vec := if nxt l (q + 2) 3 = 0 then [⟨nxt l q 65, -9, 0⟩, ⟨nxt l q 65, 80, 0⟩] else [⟨nxt l q 65, nxt l (q + 1) 65, 0⟩]
def tkS (l : List Int) (q : Nat) : Shape := ⟨-1, 2 + nxt l (q + 3) 9, tkP l q⟩
def tkN (l : List Int) : Nat := 1 + (nxt l 0 2).toNat
def tkC (l : List Int) : Nat := (nxt l 2 4).toNat
def tkShapes (l : List Int) (k : Nat) : List Shape := ⟨(tkN l : Int) - 1, 1 + nxt l 1 4, [⟨0, 0, 0⟩]⟩ :: (List.range k).map fun i => tkS l (3 + 4 * i)
def mkTrack (l : List Int) : Scene := ⟨slider (tkN l) 64, tkShapes l (tkC l), []⟩
theorem tkShapes_succ (l : List Int) (k : Nat) : (tkShapes l (k + 1)).map encSh = (tkShapes l k).map encSh ++ [encSh (tkS l (3 + 4 * k))] := by
  simp [tkShapes, List.range_succ]
theorem mk_Track (l : List Int) (hl : l.length ≤ 4611686018427387904) : FnOk Tryz.prog F.mk_Track [Li l] [] 0 (Sc (mkTrack l)) [] 0 := by
  refine fnOk tab mix G.mk_Track rfl rfl (by kernel_rfl) rfl rfl ?_
  (conv => whnf)
  refine call_i (mk_From l) ?_
  (conv => whnf)
  refine call_i (mk_Next l 0 2 (by omega) (by omega) hl) ?_
  (conv => whnf)
  have n0 := nxt_bd (l := l) (j := 0) (m := 2) (by omega)
  have n1 := nxt_bd (l := l) (j := 1) (m := 4) (by omega)
  have n2 := nxt_bd (l := l) (j := 2) (m := 4) (by omega)
  have hn : IntKind.i64.wrap (1 + nxt l 0 2) = (tkN l : Nat) := by rw [w64 (by omega) (by omega)]; unfold tkN; omega
  have hn2 : tkN l ≤ 2 ∧ 1 ≤ tkN l := by unfold tkN; omega
  rw [hn]
  refine call_i (mk_Slider (tkN l) 64 (by omega)) ?_
  (conv => whnf)
  refine call_i (mk_Next l 1 4 (by omega) (by omega) hl) ?_
  (conv => whnf)
  refine ⟨⟨by simp, by simp⟩, ?_⟩
  (conv => whnf)
  refine call_i (mk_Next l 2 4 (by omega) (by omega) hl) ?_
  (conv => whnf)
  have hc : nxt l 2 4 = (tkC l : Nat) := by unfold tkC; omega
  have hc3 : tkC l ≤ 3 := by unfold tkC; omega
  rw [hc]
  have e0 : IntKind.i64.wrap ((tkN l : Int) - 1) = (tkN l : Int) - 1 := by rw [w64] <;> omega
  have e1 : IntKind.i64.wrap (1 + nxt l 1 4) = 1 + nxt l 1 4 := by rw [w64] <;> omega
  rw [e0, e1]
  show loopW _ _ _ _ _ _
  rw [mkTrack]
  generalize hcc : tkC l = c at *
  refine loop_intro (fun k : Nat => ⟨[(2, .one (.vptr 0 0)), (3, .one (.vptr 1 0)), (5, .one (.vptr 2 0)), (6, I ((c : Int) - k))], [(0, .vars Y.Scene [.nil 12, .nil 5, .nil 3, .nil 2]), (1, SrcJ l (3 + 4 * k)), (2, .vars Y.Scene [.dv (dJs (slider (tkN l) 64).joints), .dv (dMs (slider (tkN l) 64).masses), .row 3, .nil 2]), (3, .rows Y.Shape 3 ((tkShapes l k).map encSh))], 4⟩) (fun k => k ≤ c) (fun k => c - k) [] 0 [(3, 5)] (Nat.zero_le _) ⟨⟨rfl, rfl, rfl, eqI (by simp), trivial⟩, ⟨rfl, rfl, rfl, rfl, trivial⟩⟩ ?_
  rintro k hk
  have hkk : IntKind.i64.wrap ((c : Int) - k - 1) = (c : Int) - ((k + 1 : Nat) : Int) := by rw [w64] <;> omega
  have m0 := nxt_bd (l := l) (j := 3 + 4 * k) (m := 65) (by omega)
  have m1 := nxt_bd (l := l) (j := 3 + 4 * k + 1) (m := 65) (by omega)
  have m2 := nxt_bd (l := l) (j := 3 + 4 * k + 2) (m := 3) (by omega)
  have m3 := nxt_bd (l := l) (j := 3 + 4 * k + 3) (m := 9) (by omega)
  have e3 : IntKind.i64.wrap (2 + nxt l (3 + 4 * k + 3) 9) = 2 + nxt l (3 + 4 * k + 3) 9 := by rw [w64] <;> omega
  have hlen : (tkShapes l k).length = k + 1 := by simp [tkShapes]
  (conv => whnf)
  refine ask_m (fun h => ?_) (fun h => ?_)
  · have hlt : k < c := by have := of_decide_eq_true h; omega
    (conv => whnf)
    refine call_i (mk_Next l (3 + 4 * k) 65 (by omega) (by omega) hl) ?_
    (conv => whnf)
    refine call_i (mk_Next l (3 + 4 * k + 1) 65 (by omega) (by omega) hl) ?_
    (conv => whnf)
    refine call_i (mk_Next l (3 + 4 * k + 2) 3 (by omega) (by omega) hl) ?_
    (conv => whnf)
    refine ask_m (fun h3 => ?_) (fun h3 => ?_)
    · have h3 : nxt l (3 + 4 * k + 2) 3 = 0 := by simpa using h3
      (conv => whnf)
      refine call_i (mk_Next l (3 + 4 * k + 3) 9 (by omega) (by omega) hl) ?_
      (conv => whnf)
      refine ⟨⟨by simp; omega, by simp; omega⟩, ?_⟩
      (conv => whnf)
      refine ⟨k + 1, [(3, 7)], hlt, by omega, ⟨⟨rfl, rfl, rfl, eqI hkk, trivial⟩, ⟨rfl, rfl, rfl, ?_, trivial⟩⟩⟩
      rw [e3, tkShapes_succ, tkS, tkP, if_pos h3]; rfl
    · have h3 : ¬ nxt l (3 + 4 * k + 2) 3 = 0 := by simpa using h3
      (conv => whnf)
      refine call_i (mk_Next l (3 + 4 * k + 3) 9 (by omega) (by omega) hl) ?_
      (conv => whnf)
      refine ⟨⟨by simp; omega, by simp; omega⟩, ?_⟩
      (conv => whnf)
      refine ⟨k + 1, [(3, 6)], hlt, by omega, ⟨⟨rfl, rfl, rfl, eqI hkk, trivial⟩, ⟨rfl, rfl, rfl, ?_, trivial⟩⟩⟩
      rw [e3, tkShapes_succ, tkS, tkP, if_neg h3]; rfl
  · have hk : k = c := by have := of_decide_eq_false h; omega
    subst hk
    (conv => whnf)
    (conv => whnf)
    refine retO [.ownC 0 3 Y.Skip 2, .frz 3, .frz 4] ?_
    (conv => whnf)
    exact ⟨[], ⟨rfl, trivial⟩, trivial⟩
/- made scenes are valid -/
theorem slider_at {n k : Nat} {hi : Int} {j : Joint} (h : (slider n hi).joints[k]? = some j) : k < n ∧ j = sliderJ hi k := by
  rw [slider, List.getElem?_map] at h
  rcases Nat.lt_or_ge k n with hk | hk
  · rw [List.getElem?_range hk] at h
    exact ⟨hk, by simpa using h.symm⟩
  · rw [List.getElem?_eq_none (by simpa using hk)] at h; cases h
theorem slider_ok {n : Nat} {hi : Int} (h1 : 1 ≤ n) (h2 : n ≤ 10) (h3 : 0 ≤ hi) (h4 : hi ≤ 4194304) : checkRobot (slider n hi) = 0 := by
  have hl : (slider n hi).joints.length = n := by simp [slider]
  refine robot_valid (by omega) (by omega) (jointsErr_zero fun k j hj => ?_) (by simp [slider]) (by simp [slider])
  rw [Nat.zero_add]
  obtain ⟨hk, rfl⟩ := slider_at hj
  have hf := find_at (k := 0) hj fun i x hi' hx => by
    obtain ⟨hi2, rfl⟩ := slider_at hx
    intro e
    have := letter_ne i (by omega) k (by omega) e
    omega
  rw [Nat.zero_add] at hf
  refine jointErr_zero (letter_name k (by omega)) hf ?_
  · have hr : reach (4 + ((k % 2 : Nat) : Int)) = 4194304 := by
      rcases Nat.mod_two_eq_zero_or_one k with h | h <;> rw [h] <;> rfl
    refine ⟨⟨by simp only [sliderJ]; omega, by simp only [sliderJ]; omega⟩, ⟨by simp only [sliderJ]; omega, by simp only [sliderJ]; omega⟩, by simp only [sliderJ]; decide, ⟨by simp only [sliderJ]; omega, by simp only [sliderJ]; rw [hr]; omega, by simp only [sliderJ]; rw [hr]; omega⟩, by simp only [sliderJ]; decide⟩
theorem mkTrack_ok (l : List Int) : checkScene (mkTrack l) = 0 := by
  have n0 := nxt_bd (l := l) (j := 0) (m := 2) (by omega)
  have n1 := nxt_bd (l := l) (j := 1) (m := 4) (by omega)
  have n2 := nxt_bd (l := l) (j := 2) (m := 4) (by omega)
  have hn2 : tkN l ≤ 2 ∧ 1 ≤ tkN l := by unfold tkN; omega
  have hc3 : tkC l ≤ 3 := by unfold tkC; omega
  have hl : (mkTrack l).robot.joints.length = tkN l := by simp [mkTrack, slider]
  refine scene_valid (slider_ok hn2.2 (by omega) (by decide) (by decide)) (by simp [mkTrack, tkShapes]; omega) (fun x hx => ?_) (by simp [mkTrack]) (by simp [mkTrack])
  rw [hl]
  rcases List.mem_cons.1 hx with rfl | hx
  · exact shapeErr_zero (linkOk_mk (by simp only; omega) (by simp only; omega)) ⟨by simp only; omega, by simp only; omega⟩ ⟨by simp, by simp⟩ (by simp only [List.all_cons, List.all_nil]; decide)
  · obtain ⟨i, _, rfl⟩ := List.mem_map.1 hx
    have m0 := nxt_bd (l := l) (j := 3 + 4 * i) (m := 65) (by omega)
    have m1 := nxt_bd (l := l) (j := 3 + 4 * i + 1) (m := 65) (by omega)
    have m3 := nxt_bd (l := l) (j := 3 + 4 * i + 3) (m := 9) (by omega)
    refine shapeErr_zero (linkOk_mk (by simp only [tkS]; omega) (by simp only [tkS]; omega)) ⟨by simp only [tkS]; omega, by simp only [tkS]; omega⟩ ?_ ?_
    · simp only [tkS, tkP]; split <;> simp
    · simp only [tkS, tkP]
      split
      · simp only [List.all_cons, List.all_nil, Bool.and_true, Bool.and_eq_true]
        exact ⟨inV_mk ⟨by omega, by omega⟩ ⟨by omega, by omega⟩ ⟨by omega, by omega⟩, inV_mk ⟨by omega, by omega⟩ ⟨by omega, by omega⟩ ⟨by omega, by omega⟩⟩
      · simp only [List.all_cons, List.all_nil, Bool.and_true]
        exact inV_mk ⟨by omega, by omega⟩ ⟨by omega, by omega⟩ ⟨by omega, by omega⟩
end Go.Proofs.YthdbdokhncaijaaGreat

/- Joined scenes: the data, and team's functions up to addShapes. -/
namespace Go.Proofs.YthdbdokhncaijaaGreat
open Eng
set_option maxRecDepth 10000
attribute [local irreducible] FnOk loopW idxF retX arrF

abbrev ww (x : Int) : Int := IntKind.i64.wrap x
def addV (b v : Vec) : Vec := ⟨ww (v.x + b.x), ww (v.y + b.y), ww (v.z + b.z)⟩
def joinV (b v : Vec) (n : Int) : Vec := if n = -1 then addV b v else v
def raise (p n : Int) : Int := if n = -1 then -1 else n + p
abbrev Am (t : ByteArray) (p : Int) (b : Vec) : SV := .agg [.dv (.str t), .dv (.int .i64 p), .dv (.int .i64 b.x), .dv (.int .i64 b.y), .dv (.int .i64 b.z)]
abbrev bAm (t : ByteArray) (p : Int) (b : Vec) : Box := .vars Y.team_arm [.dv (.str t), .dv (.int .i64 p), .dv (.int .i64 b.x), .dv (.int .i64 b.y), .dv (.int .i64 b.z)]
theorem team_link (t : ByteArray) (p : Int) (b : Vec) (n : Int) (h0 : 0 ≤ p ∧ p ≤ 1000) (h1 : -1 ≤ n ∧ n ≤ 1000) : FnOk Tryz.prog F.team_arm_link [Am t p b, I n] [] 0 (I (raise p n)) [] 0 := by
  refine fnOk tab mix G.team_arm_link rfl rfl (by kernel_rfl) rfl rfl ?_
  (conv => whnf)
  refine ask_m (fun h => ?_) (fun h => ?_)
  · have h : n = -1 := by simpa using h
    (conv => whnf)
    refine ret0 ?_
    exact ret_i (by rw [raise, if_pos h, h]) rfl
  · have h : ¬ n = -1 := by simpa using h
    (conv => whnf)
    refine ret0 ?_
    exact ret_i (by rw [raise, if_neg h, w64] <;> omega) rfl
def vS (b v : Vec) : Nat → Vec
  | 0 => v
  | 1 => ⟨ww (v.x + b.x), v.y, v.z⟩
  | 2 => ⟨ww (v.x + b.x), ww (v.y + b.y), v.z⟩
  | _ => addV b v
theorem team_place (t : ByteArray) (p : Int) (b v : Vec) (n : Int) : FnOk Tryz.prog F.team_arm_place [Am t p b, Ve v, I n] [] 0 (Ve (joinV b v n)) [] 0 := by
  refine fnOk tab mix G.team_arm_place rfl rfl (by kernel_rfl) rfl rfl ?_
  (conv => whnf)
  refine ask_m (fun h => ?_) (fun h => ?_)
  · have h : n = -1 := by simpa using h
    rw [joinV, if_pos h]
    (conv => whnf)
    refine loop_intro (fun k : Nat => ⟨[(4, .one (.vptr 1 0)), (6, .one (.vptr 2 0)), (12, Ve b), (13, I k)], [(1, .vars Y.Vec [.dv (.int .i64 (vS b v k).x), .dv (.int .i64 (vS b v k).y), .dv (.int .i64 (vS b v k).z)]), (2, .vars Y.Vec [.dv (.int .i64 0), .dv (.int .i64 0), .dv (.int .i64 0)])], 3⟩) (fun k => k ≤ 3) (fun k => 3 - k) [] 0 [] (Nat.zero_le _) ⟨⟨rfl, rfl, rfl, rfl, trivial⟩, ⟨rfl, rfl, trivial⟩⟩ ?_
    rintro k hk
    obtain rfl | rfl | rfl | rfl : k = 0 ∨ k = 1 ∨ k = 2 ∨ k = 3 := by omega
    · (conv => whnf)
      refine ⟨⟨by decide, by decide⟩, ?_⟩
      (conv => whnf)
      refine arr_vec rfl rfl (k := 0) (by decide) ?_
      (conv => whnf)
      refine ⟨⟨by decide, by decide⟩, ?_⟩
      (conv => whnf)
      refine ⟨⟨by decide, by decide⟩, ?_⟩
      (conv => whnf)
      exact ⟨1, [], by decide, by decide, ⟨⟨rfl, rfl, rfl, eqI (by decide), trivial⟩, ⟨rfl, rfl, trivial⟩⟩⟩
    · (conv => whnf)
      refine ⟨⟨by decide, by decide⟩, ?_⟩
      (conv => whnf)
      refine arr_vec rfl rfl (k := 1) (by decide) ?_
      (conv => whnf)
      refine ⟨⟨by decide, by decide⟩, ?_⟩
      (conv => whnf)
      refine ⟨⟨by decide, by decide⟩, ?_⟩
      (conv => whnf)
      exact ⟨2, [], by decide, by decide, ⟨⟨rfl, rfl, rfl, eqI (by decide), trivial⟩, ⟨rfl, rfl, trivial⟩⟩⟩
    · (conv => whnf)
      refine ⟨⟨by decide, by decide⟩, ?_⟩
      (conv => whnf)
      refine arr_vec rfl rfl (k := 2) (by decide) ?_
      (conv => whnf)
      refine ⟨⟨by decide, by decide⟩, ?_⟩
      (conv => whnf)
      refine ⟨⟨by decide, by decide⟩, ?_⟩
      (conv => whnf)
      exact ⟨3, [], by decide, by decide, ⟨⟨rfl, rfl, rfl, eqI (by decide), trivial⟩, ⟨rfl, rfl, trivial⟩⟩⟩
    · (conv => whnf)
      refine ret0 ?_
      exact ⟨[], ⟨rfl, trivial⟩, trivial⟩
  · have h : ¬ n = -1 := by simpa using h
    rw [joinV, if_neg h]
    (conv => whnf)
    refine ret0 ?_
    exact ⟨[], ⟨rfl, trivial⟩, trivial⟩
/- scenes joined one after the other -/
def joinJ (t : ByteArray) (p : Int) (b : Vec) (j : Joint) : Joint := ⟨t ++ j.name, j.kind, raise p j.parent, joinV b j.off j.parent, j.lo, j.hi, j.weight, j.speed, j.accel, j.torque⟩
def joinM (p : Int) (m : Mass) : Mass := ⟨raise p m.link, m.mass, m.point⟩
def joinSh (p : Int) (b : Vec) (x : Shape) : Shape := ⟨raise p x.link, x.radius, x.points.map fun v => joinV b v x.link⟩
def joinSk (p : Int) (k : Skip) : Skip := ⟨raise p k.a, raise p k.b⟩
def addScene (acc : Scene) (t : ByteArray) (b : Vec) (s : Scene) : Scene :=
  ⟨⟨acc.robot.joints ++ s.robot.joints.map (joinJ t acc.robot.joints.length b), acc.robot.masses ++ s.robot.masses.map (joinM acc.robot.joints.length)⟩, acc.shapes ++ s.shapes.map (joinSh acc.robot.joints.length b), acc.skips ++ s.skips.map (joinSk acc.robot.joints.length)⟩
end Go.Proofs.YthdbdokhncaijaaGreat

/- team: Clone, addRobot, addShapes. -/
namespace Go.Proofs.YthdbdokhncaijaaGreat
open Eng
set_option maxRecDepth 10000
attribute [local irreducible] FnOk loopW idxF retX arrF

theorem clone_Vec (l : List Vec) (hl : l.length ≤ 1099511627776) : FnOk Tryz.prog F.slices_Clone_sapi_Vec_api_Vec [.one (.dv (dVs l))] [] 0 (.one (.row 0)) [(0, .rows Y.Vec 3 (l.map encV))] 1 := by
  refine fnOk tab mix G.slices_Clone_sapi_Vec_api_Vec rfl rfl (by kernel_rfl) rfl rfl ?_
  (conv => whnf)
  refine ⟨fun h => ?_, ?_⟩
  · (conv => whnf)
    refine retO [.own 2 Y.Vec 3] ?_
    (conv => whnf)
    exact ⟨[], ⟨rfl, trivial⟩, ⟨by rw [h]; rfl, trivial⟩⟩
  · (conv => whnf)
    refine ⟨⟨by simp; omega, by simp; omega⟩, ?_⟩
    (conv => whnf)
    (conv => whnf)
    refine retO [] ?_
    (conv => whnf)
    exact ⟨[(0, 1)], ⟨rfl, trivial⟩, ⟨rfl, trivial⟩⟩
abbrev bJs (js : List Joint) : Box := .rows Y.Joint 12 (js.map encJ)
abbrev bMs (ms : List Mass) : Box := .rows Y.Mass 5 (ms.map encM)
abbrev bShs (ss : List Shape) : Box := .rows Y.Shape 3 (ss.map encSh)
abbrev bSks (ss : List Skip) : Box := .rows Y.Skip 2 (ss.map encSk)
theorem map_enc1 {α β : Type} (f : α → β) (enc : β → List DV) (A : List β) {l : List α} {k : Nat} {x : α} (h : l[k]? = some x) : (A ++ (l.take (k + 1)).map f).map enc = (A ++ (l.take k).map f).map enc ++ [enc (f x)] := by
  rw [map_take1 f h, ← List.append_assoc, List.map_append]; rfl
theorem team_addRobot (t : ByteArray) (p : Int) (b : Vec) (acc : Scene) (r : Robot) (ht : t.size ≤ 10) (hp : 0 ≤ p ∧ p ≤ 1000) (hr : checkRobot r = 0) (ha : acc.robot.joints.length ≤ 1000 ∧ acc.robot.masses.length ≤ 1000) :
    FnOk Tryz.prog F.team_arm_addRobot [Am t p b, .one (.vptr 0 0), Ro r] [(0, .vars Y.Scene [.row 1, .row 2, .row 3, .row 4]), (1, bJs acc.robot.joints), (2, bMs acc.robot.masses), (3, bShs acc.shapes), (4, bSks acc.skips)] 5 (.tup [])
      [(0, .vars Y.Scene [.row 5, .row 6, .row 3, .row 4]), (5, bJs (acc.robot.joints ++ r.joints.map (joinJ t p b))), (6, bMs (acc.robot.masses ++ r.masses.map (joinM p))), (3, bShs acc.shapes), (4, bSks acc.skips)] 7 := by
  obtain ⟨g1, g2, g3, g4⟩ := robot_facts hr
  refine fnOk tab mix G.team_arm_addRobot rfl rfl (by kernel_rfl) rfl rfl ?_
  (conv => whnf)
  refine loop_intro (fun k : Nat => ⟨[(1, .one (.vptr 0 0)), (3, .one (.vptr 5 0)), (5, .one (.vptr 6 0)), (11, .one (.dv (dJs r.joints))), (12, I r.joints.length), (13, I k)], [(0, .vars Y.Scene [.row 7, .row 2, .row 3, .row 4]), (2, bMs acc.robot.masses), (3, bShs acc.shapes), (4, bSks acc.skips), (5, bAm t p b), (6, bRo r), (7, bJs (acc.robot.joints ++ (r.joints.take k).map (joinJ t p b)))], 8⟩) (fun k => k ≤ r.joints.length) (fun k => r.joints.length - k) [] 0 [(7, 1)] (Nat.zero_le _) ⟨⟨rfl, rfl, rfl, rfl, eqI (by simp), rfl, trivial⟩, ⟨rfl, rfl, rfl, rfl, rfl, rfl, rows_eq (by simp), trivial⟩⟩ ?_
  rintro k hk
  have hkk : IntKind.i64.wrap ((k : Int) + 1) = ((k + 1 : Nat) : Int) := by rw [w64] <;> omega
  (conv => whnf)
  refine ask_m (fun hlt => ?_) (fun hlt => ?_)
  · have hlt : k < r.joints.length := by have := of_decide_eq_true hlt; omega
    obtain ⟨j, hj⟩ : ∃ j, r.joints[k]? = some j := ⟨_, List.getElem?_eq_getElem hlt⟩
    obtain ⟨n1, ⟨n2, n3⟩, ⟨n4, n5⟩, n6⟩ := g2 k j hj
    have nm : j.name.size ≤ 16 := by
      simp only [nameOk, Bool.and_eq_true, decide_eq_true_eq] at n1
      exact n1.1.1.2
    (conv => whnf)
    refine idx_and (by omega) (by simpa using hj) ?_
    (conv => whnf)
    refine ⟨by omega, ?_⟩
    (conv => whnf)
    refine call_i (team_place t p b j.off j.parent) ?_
    (conv => whnf)
    refine call_i (team_link t p b j.parent hp (by omega)) ?_
    (conv => whnf)
    refine ⟨⟨by simp; omega, by simp; omega⟩, ?_⟩
    (conv => whnf)
    exact ⟨k + 1, [(7, 10)], hlt, by omega, ⟨⟨rfl, rfl, rfl, rfl, rfl, eqI hkk, trivial⟩, ⟨rfl, rfl, rfl, rfl, rfl, rfl, rows_eq (by rw [map_enc1 _ _ _ hj]; rfl), trivial⟩⟩⟩
  · have hk : k = r.joints.length := by have := of_decide_eq_false hlt; omega
    subst hk
    rw [List.take_length]
    generalize acc.robot.joints ++ r.joints.map (joinJ t p b) = J
    (conv => whnf)
    refine loop_intro (fun k : Nat => ⟨[(1, .one (.vptr 0 0)), (3, .one (.vptr 5 0)), (47, .one (.dv (dMs r.masses))), (48, I r.masses.length), (49, I k)], [(0, .vars Y.Scene [.row 7, .row 8, .row 3, .row 4]), (3, bShs acc.shapes), (4, bSks acc.skips), (5, bAm t p b), (7, bJs J), (8, bMs (acc.robot.masses ++ (r.masses.take k).map (joinM p)))], 9⟩) (fun k => k ≤ r.masses.length) (fun k => r.masses.length - k) [] 0 [(8, 2)] (Nat.zero_le _) ⟨⟨rfl, rfl, rfl, eqI (by simp), rfl, trivial⟩, ⟨rfl, rfl, rfl, rfl, rfl, rows_eq (by simp), trivial⟩⟩ ?_
    rintro k hk
    have hkk : IntKind.i64.wrap ((k : Int) + 1) = ((k + 1 : Nat) : Int) := by rw [w64] <;> omega
    (conv => whnf)
    refine ask_m (fun hlt => ?_) (fun hlt => ?_)
    · have hlt : k < r.masses.length := by have := of_decide_eq_true hlt; omega
      obtain ⟨m, hm⟩ : ∃ m, r.masses[k]? = some m := ⟨_, List.getElem?_eq_getElem hlt⟩
      have hok := g4 m (List.mem_of_getElem? hm)
      simp only [massOk, Bool.and_eq_true, decide_eq_true_eq] at hok
      (conv => whnf)
      refine idx_and (by omega) (by simpa using hm) ?_
      (conv => whnf)
      refine call_i (team_link t p b m.link hp (by omega)) ?_
      (conv => whnf)
      refine ⟨⟨by simp; omega, by simp; omega⟩, ?_⟩
      (conv => whnf)
      exact ⟨k + 1, [(8, 11)], hlt, by omega, ⟨⟨rfl, rfl, rfl, rfl, eqI hkk, trivial⟩, ⟨rfl, rfl, rfl, rfl, rfl, rows_eq (by rw [map_enc1 _ _ _ hm]; rfl), trivial⟩⟩⟩
    · have hk : k = r.masses.length := by have := of_decide_eq_false hlt; omega
      subst hk
      rw [List.take_length]
      (conv => whnf)
      refine retO [] ?_
      (conv => whnf)
      exact ⟨[(5, 7), (6, 8)], ⟨rfl, trivial⟩, ⟨rfl, rfl, rfl, rfl, rfl, trivial⟩⟩
theorem set_mid {α : Type} {A B : List α} {x y : α} {k : Nat} (h : A.length = k) : (A ++ x :: B).set k y = A ++ y :: B := by
  subst h; simp
theorem team_addShapes (t : ByteArray) (p : Int) (b : Vec) (acc : Scene) (s : Scene) (hp : 0 ≤ p ∧ p ≤ 1000) (hs : checkScene s = 0) (ha : acc.shapes.length ≤ 1000 ∧ acc.skips.length ≤ 1000) :
    FnOk Tryz.prog F.team_arm_addShapes [Am t p b, .one (.vptr 0 0), Sc s] [(0, .vars Y.Scene [.row 1, .row 2, .row 3, .row 4]), (1, bJs acc.robot.joints), (2, bMs acc.robot.masses), (3, bShs acc.shapes), (4, bSks acc.skips)] 5 (.tup [])
      [(0, .vars Y.Scene [.row 1, .row 2, .row 5, .row 6]), (1, bJs acc.robot.joints), (2, bMs acc.robot.masses), (5, bShs (acc.shapes ++ s.shapes.map (joinSh p b))), (6, bSks (acc.skips ++ s.skips.map (joinSk p)))] 7 := by
  obtain ⟨g0, g1, g2, g3, g4⟩ := scene_facts hs
  obtain ⟨f1, _, _, _⟩ := robot_facts g0
  refine fnOk tab mix G.team_arm_addShapes rfl rfl (by kernel_rfl) rfl rfl ?_
  (conv => whnf)
  refine loop_intro (fun k : Nat => ⟨[(1, .one (.vptr 0 0)), (3, .one (.vptr 5 0)), (5, .one (.vptr 6 0)), (13, .one (.dv (dShs s.shapes))), (14, I s.shapes.length), (15, I k)], [(0, .vars Y.Scene [.row 1, .row 2, .row 7, .row 4]), (1, bJs acc.robot.joints), (2, bMs acc.robot.masses), (4, bSks acc.skips), (5, bAm t p b), (6, bSc s), (7, bShs (acc.shapes ++ (s.shapes.take k).map (joinSh p b)))], 8⟩) (fun k => k ≤ s.shapes.length) (fun k => s.shapes.length - k) [] 0 [(7, 3)] (Nat.zero_le _) ⟨⟨rfl, rfl, rfl, rfl, eqI (by simp), rfl, trivial⟩, ⟨rfl, rfl, rfl, rfl, rfl, rfl, rows_eq (by simp), trivial⟩⟩ ?_
  rintro k hk
  have hkk : IntKind.i64.wrap ((k : Int) + 1) = ((k + 1 : Nat) : Int) := by rw [w64] <;> omega
  (conv => whnf)
  refine ask_m (fun hlt => ?_) (fun hlt => ?_)
  · have hlt : k < s.shapes.length := by have := of_decide_eq_true hlt; omega
    obtain ⟨x, hx⟩ : ∃ x, s.shapes[k]? = some x := ⟨_, List.getElem?_eq_getElem hlt⟩
    obtain ⟨q1, q2, q3, q4, q5⟩ := g2 x (List.mem_of_getElem? hx)
    have q1 := link_bd q1
    (conv => whnf)
    refine idx_and (by omega) (by simpa using hx) ?_
    (conv => whnf)
    refine call_i (clone_Vec x.points (by omega)) ?_
    (conv => whnf)
    refine loop_intro (fun i : Nat => ⟨[(1, .one (.vptr 0 0)), (3, .one (.vptr 5 0)), (5, .one (.vptr 6 0)), (7, .one (.vptr 8 0)), (13, .one (.dv (dShs s.shapes))), (14, I s.shapes.length), (15, I k), (24, .one (.row 9)), (25, I x.points.length), (26, I i)], [(0, .vars Y.Scene [.row 1, .row 2, .row 7, .row 4]), (1, bJs acc.robot.joints), (2, bMs acc.robot.masses), (4, bSks acc.skips), (5, bAm t p b), (6, bSc s), (7, bShs (acc.shapes ++ (s.shapes.take k).map (joinSh p b))), (8, .vars Y.Shape [.dv (.int .i64 x.link), .dv (.int .i64 x.radius), .row 9]), (9, .rows Y.Vec 3 ((((x.points.take i).map fun v => joinV b v x.link) ++ x.points.drop i).map encV))], 10⟩) (fun i => i ≤ x.points.length) (fun i => x.points.length - i) [] 0 [] (Nat.zero_le _) ⟨⟨rfl, rfl, rfl, rfl, rfl, rfl, rfl, rfl, eqI (by simp), rfl, trivial⟩, ⟨rfl, rfl, rfl, rfl, rfl, rfl, rfl, rfl, rfl, trivial⟩⟩ ?_
    rintro i hi
    have hii : IntKind.i64.wrap ((i : Int) + 1) = ((i + 1 : Nat) : Int) := by rw [w64] <;> omega
    (conv => whnf)
    refine ask_m (fun hilt => ?_) (fun hilt => ?_)
    · have hilt : i < x.points.length := by have := of_decide_eq_true hilt; omega
      obtain ⟨v, hv⟩ : ∃ v, x.points[i]? = some v := ⟨_, List.getElem?_eq_getElem hilt⟩
      have hA : ((x.points.take i).map fun v => joinV b v x.link).length = i := by rw [List.length_map, List.length_take]; omega
      have hn : ((x.points.take (i + 1)).map fun v => joinV b v x.link) ++ x.points.drop (i + 1) = ((x.points.take i).map fun v => joinV b v x.link) ++ joinV b v x.link :: x.points.drop (i + 1) := by
        rw [map_take1 _ hv, List.append_assoc]; rfl
      rw [drop_cons hv]
      rw [List.map_append, List.map_cons] 
      generalize hAA : ((x.points.take i).map fun v => joinV b v x.link) = A at *
      have hAl : (A.map encV).length = i := by rw [List.length_map]; exact hA
      have hat : (A.map encV ++ encV v :: (x.points.drop (i + 1)).map encV)[i]? = some (encV v) := by
        rw [List.getElem?_append_right (by omega), hAl, Nat.sub_self]; rfl
      (conv => whnf)
      refine ⟨⟨by omega, by simp [hA]; omega⟩, ?_⟩
      (conv => whnf)
      refine idx_at (r := encV v) (by rw [Int.toNat_natCast]; exact hat) ?_
      (conv => whnf)
      refine call_i (team_place t p b v x.link) ?_
      (conv => whnf)
      refine ⟨⟨by omega, by simp [hA]; omega⟩, ?_⟩
      (conv => whnf)
      refine idx_at (r := encV v) (by rw [Int.toNat_natCast]; exact hat) ?_
      (conv => whnf)
      exact ⟨i + 1, [], hilt, by omega, ⟨⟨rfl, rfl, rfl, rfl, rfl, rfl, rfl, rfl, rfl, eqI hii, trivial⟩, ⟨rfl, rfl, rfl, rfl, rfl, rfl, rfl, rfl, rows_eq (by rw [Int.toNat_natCast, hn, List.map_append, List.map_cons]; exact set_mid hAl), trivial⟩⟩⟩
    · have hi : i = x.points.length := by have := of_decide_eq_false hilt; omega
      subst hi
      rw [List.take_length, List.drop_length, List.append_nil]
      (conv => whnf)
      refine call_i (team_link t p b x.link hp (by omega)) ?_
      (conv => whnf)
      refine ⟨⟨by simp; omega, by simp; omega⟩, ?_⟩
      (conv => whnf)
      exact ⟨k + 1, [(7, 11)], hlt, by omega, ⟨⟨rfl, rfl, rfl, rfl, rfl, eqI hkk, trivial⟩, ⟨rfl, rfl, rfl, rfl, rfl, rfl, rows_eq (by rw [map_enc1 _ _ _ hx]; rfl), trivial⟩⟩⟩
  · have hk : k = s.shapes.length := by have := of_decide_eq_false hlt; omega
    subst hk
    rw [List.take_length]
    generalize acc.shapes ++ s.shapes.map (joinSh p b) = S
    (conv => whnf)
    refine loop_intro (fun k : Nat => ⟨[(1, .one (.vptr 0 0)), (3, .one (.vptr 5 0)), (58, .one (.dv (dSks s.skips))), (59, I s.skips.length), (60, I k)], [(0, .vars Y.Scene [.row 1, .row 2, .row 7, .row 8]), (1, bJs acc.robot.joints), (2, bMs acc.robot.masses), (5, bAm t p b), (7, bShs S), (8, bSks (acc.skips ++ (s.skips.take k).map (joinSk p)))], 9⟩) (fun k => k ≤ s.skips.length) (fun k => s.skips.length - k) [] 0 [(8, 4)] (Nat.zero_le _) ⟨⟨rfl, rfl, rfl, eqI (by simp), rfl, trivial⟩, ⟨rfl, rfl, rfl, rfl, rfl, rows_eq (by simp), trivial⟩⟩ ?_
    rintro k hk
    have hkk : IntKind.i64.wrap ((k : Int) + 1) = ((k + 1 : Nat) : Int) := by rw [w64] <;> omega
    (conv => whnf)
    refine ask_m (fun hlt => ?_) (fun hlt => ?_)
    · have hlt : k < s.skips.length := by have := of_decide_eq_true hlt; omega
      obtain ⟨m, hm⟩ : ∃ m, s.skips[k]? = some m := ⟨_, List.getElem?_eq_getElem hlt⟩
      obtain ⟨q1, q2⟩ := g4 m (List.mem_of_getElem? hm)
      have q1 := link_bd q1
      have q2 := link_bd q2
      (conv => whnf)
      refine idx_and (by omega) (by simpa using hm) ?_
      (conv => whnf)
      refine call_i (team_link t p b m.a hp (by omega)) ?_
      (conv => whnf)
      refine call_i (team_link t p b m.b hp (by omega)) ?_
      (conv => whnf)
      refine ⟨⟨by simp; omega, by simp; omega⟩, ?_⟩
      (conv => whnf)
      exact ⟨k + 1, [(8, 11)], hlt, by omega, ⟨⟨rfl, rfl, rfl, rfl, eqI hkk, trivial⟩, ⟨rfl, rfl, rfl, rfl, rfl, rows_eq (by rw [map_enc1 _ _ _ hm]; rfl), trivial⟩⟩⟩
    · have hk : k = s.skips.length := by have := of_decide_eq_false hlt; omega
      subst hk
      rw [List.take_length]
      (conv => whnf)
      refine retO [] ?_
      (conv => whnf)
      exact ⟨[(5, 7), (6, 8)], ⟨rfl, trivial⟩, ⟨rfl, rfl, rfl, rfl, rfl, trivial⟩⟩
end Go.Proofs.YthdbdokhncaijaaGreat
