import Derived.Test.YtafglmjadbplcaaDoorNm
import Derived.Test.YtafglmjadbplcaaDoorEngG
import Derived.Laws.RangeAny
import Derived.Lib.Walk
import Derived.Lib.Bytealg
import Derived.Lib.ItoaMem
/- Common ground for a seat's walks: integers, lists, texts. -/
namespace Go.Proofs.YtafglmjadbplcaaDoor
open Eng
set_option maxRecDepth 10000
attribute [local irreducible] FnOk loopW idxF retX arrF

theorem w64 {x : Int} (h1 : -9223372036854775808 ≤ x) (h2 : x ≤ 9223372036854775807) : IntKind.i64.wrap x = x := by
  rw [IntKind.wrap_i64]; omega
abbrev I (n : Int) : SV := .one (.dv (.int .i64 n))
abbrev Bo (b : Bool) : SV := .one (.dv (.bool b))
abbrev Tx (s : ByteArray) : SV := .one (.dv (.str s))
theorem eqI {a b : Int} (h : a = b) : I a = I b := by rw [h]
theorem eqB {a b : Bool} (h : a = b) : Bo a = Bo b := by rw [h]
def encI (n : Int) : List DV := [.int .i64 n]
abbrev Li (xs : List Int) : SV := .one (.dv (.lst 1 (xs.map encI)))
theorem all_take {α : Type} {f : α → Bool} {xs : List α} {k : Nat} {x : α} (h : (xs.take k).all f = true) (hx : xs[k]? = some x) (hf : f x = true) : (xs.take (k + 1)).all f = true := by
  rw [List.take_add_one, hx]; simp [h, hf]
theorem all_not {α : Type} {f : α → Bool} {xs : List α} {k : Nat} {x : α} (hx : xs[k]? = some x) (hf : f x = false) : xs.all f = false := by
  rw [List.all_eq_false]; exact ⟨x, List.mem_of_getElem? hx, by simp [hf]⟩
theorem any_take {α : Type} {f : α → Bool} {xs : List α} {k : Nat} {x : α} (h : (xs.take k).any f = false) (hx : xs[k]? = some x) (hf : f x = false) : (xs.take (k + 1)).any f = false := by
  rw [List.take_add_one, hx]; simp [h, hf]
theorem any_yes {α : Type} {f : α → Bool} {xs : List α} {k : Nat} {x : α} (hx : xs[k]? = some x) (hf : f x = true) : xs.any f = true := by
  rw [List.any_eq_true]; exact ⟨x, List.mem_of_getElem? hx, hf⟩
theorem drop_cons {α : Type} {l : List α} {k : Nat} {x : α} (h : l[k]? = some x) : l.drop k = x :: l.drop (k + 1) := by
  obtain ⟨h1, h2⟩ := List.getElem?_eq_some_iff.1 h
  rw [List.drop_eq_getElem_cons h1, h2]
theorem take_same {α : Type} {xs ys : List α} {k : Nat} {x : α} (h : xs.take k = ys.take k) (hx : xs[k]? = some x) (hy : ys[k]? = some x) : xs.take (k + 1) = ys.take (k + 1) := by
  rw [List.take_add_one, List.take_add_one, hx, hy, h]
theorem ne_at {α : Type} {xs ys : List α} {k : Nat} {x y : α} (hx : xs[k]? = some x) (hy : ys[k]? = some y) (h : x ≠ y) : xs ≠ ys := by
  rintro rfl; rw [hx] at hy; injection hy; contradiction
theorem range_enc {α : Type} {f : Nat → α} {enc : α → List DV} {k : Nat} : ((List.range (k + 1)).map f).map enc = ((List.range k).map f).map enc ++ [enc (f k)] := by
  simp [List.range_succ]
theorem map_of {α : Type} {enc : α → List DV} : ∀ {rs : List (List DV)}, (∀ r ∈ rs, ∃ a, r = enc a) → ∃ xs : List α, rs = xs.map enc
  | [], _ => ⟨[], rfl⟩
  | r :: rs, h => by
    obtain ⟨a, ha⟩ := h r (by simp)
    obtain ⟨xs, hx⟩ := map_of (rs := rs) fun r hr => h r (by simp [hr])
    exact ⟨a :: xs, by rw [ha, hx]; rfl⟩
theorem all2_cons {α β : Type} {R : α → β → Prop} {a : α} {l : List α} {r : List β} (h : All2 R (a :: l) r) : ∃ b r', r = b :: r' ∧ R a b ∧ All2 R l r' := by
  cases r with
  | nil => exact h.elim
  | cons b r => exact ⟨b, r, rfl, h.1, h.2⟩
theorem all2_nil {α β : Type} {R : α → β → Prop} {r : List β} (h : All2 R [] r) : r = [] := by
  cases r with
  | nil => rfl
  | cons b r => exact h.elim
theorem own : ownKnob Tryd.prog.godebug = none := by kernel_rfl
theorem laid : laidOutB Tryd.prog = true := by kernel_rfl
theorem flatI (t : Nat) (xs : List Int) : FlatB (.rows t 1 (xs.map encI)) := by
  intro r hr d hd
  obtain ⟨x, _, rfl⟩ := List.mem_map.1 hr
  simp [encI] at hd; subst hd; trivial

/- numbers -/
theorem tmod_pos {x m : Int} (hm : 0 < m) : (x.tmod m < 0 → x.tmod m + m = x % m) ∧ (0 ≤ x.tmod m → x.tmod m = x % m) ∧ -m < x.tmod m ∧ x.tmod m < m := by
  have h1 := Int.tmod_eq_emod (a := x) (b := m)
  have h2 := Int.emod_nonneg x (b := m) (by omega)
  have h3 := Int.emod_lt_of_pos x hm
  have : (m.natAbs : Int) = m := by omega
  split at h1 <;> omega
end Go.Proofs.YtafglmjadbplcaaDoor

/- Robots and scenes as data, and what the chapters 8 and 9 ask of them, in plain Lean. -/
namespace Go.Proofs.YtafglmjadbplcaaDoor
open Eng
set_option maxRecDepth 10000

structure Vec where
  x : Int
  y : Int
  z : Int
deriving DecidableEq
structure Joint where
  name : ByteArray
  kind : Int
  parent : Int
  off : Vec
  lo : Int
  hi : Int
  weight : Int
  speed : Int
  accel : Int
  torque : Int
structure Mass where
  link : Int
  mass : Int
  point : Vec
structure Shape where
  link : Int
  radius : Int
  points : List Vec
structure Skip where
  a : Int
  b : Int
deriving DecidableEq
structure Robot where
  joints : List Joint
  masses : List Mass
structure Scene where
  robot : Robot
  shapes : List Shape
  skips : List Skip
structure Pair where
  a : Int
  b : Int
deriving DecidableEq
def encV (v : Vec) : List DV := [.int .i64 v.x, .int .i64 v.y, .int .i64 v.z]
def encJ (j : Joint) : List DV := [.str j.name, .int .i64 j.kind, .int .i64 j.parent, .int .i64 j.off.x, .int .i64 j.off.y, .int .i64 j.off.z, .int .i64 j.lo, .int .i64 j.hi, .int .i64 j.weight, .int .i64 j.speed, .int .i64 j.accel, .int .i64 j.torque]
def encM (m : Mass) : List DV := [.int .i64 m.link, .int .i64 m.mass, .int .i64 m.point.x, .int .i64 m.point.y, .int .i64 m.point.z]
def encSh (s : Shape) : List DV := [.int .i64 s.link, .int .i64 s.radius, .lst 3 (s.points.map encV)]
def encSk (s : Skip) : List DV := [.int .i64 s.a, .int .i64 s.b]
def encPa (s : Pair) : List DV := [.int .i64 s.a, .int .i64 s.b]
abbrev dJs (js : List Joint) : DV := .lst 12 (js.map encJ)
abbrev dMs (ms : List Mass) : DV := .lst 5 (ms.map encM)
abbrev dShs (ss : List Shape) : DV := .lst 3 (ss.map encSh)
abbrev dSks (ss : List Skip) : DV := .lst 2 (ss.map encSk)
abbrev Ro (r : Robot) : SV := .agg [.dv (dJs r.joints), .dv (dMs r.masses)]
abbrev Sc (s : Scene) : SV := .agg [.dv (dJs s.robot.joints), .dv (dMs s.robot.masses), .dv (dShs s.shapes), .dv (dSks s.skips)]
abbrev Ve (v : Vec) : SV := .agg [.dv (.int .i64 v.x), .dv (.int .i64 v.y), .dv (.int .i64 v.z)]

abbrev Ma (m : Mass) : SV := .agg [.dv (.int .i64 m.link), .dv (.int .i64 m.mass), .dv (.int .i64 m.point.x), .dv (.int .i64 m.point.y), .dv (.int .i64 m.point.z)]
abbrev Sh (s : Shape) : SV := .agg [.dv (.int .i64 s.link), .dv (.int .i64 s.radius), .dv (.lst 3 (s.points.map encV))]
abbrev dVs (l : List Vec) : DV := .lst 3 (l.map encV)
def small (s : Scene) : Prop := s.robot.joints.length ≤ 4611686018427387904 ∧ s.robot.masses.length ≤ 4611686018427387904 ∧ s.shapes.length ≤ 4611686018427387904 ∧ s.skips.length ≤ 4611686018427387904 ∧ ∀ x ∈ s.shapes, x.points.length ≤ 4611686018427387904

/- names -/
def letterB (c : Int) : Bool := decide (97 ≤ c) && decide (c ≤ 122)
def digitB (c : Int) : Bool := decide (48 ≤ c) && decide (c ≤ 57)
def nameB (i : Nat) (c : Int) : Bool := letterB c || (decide (i ≠ 0) && (digitB c || decide (c = 95)))
def worldT : ByteArray := ⟨#[119, 111, 114, 108, 100]⟩
def nameOk (s : ByteArray) : Bool := decide (1 ≤ s.size) && decide (s.size ≤ 16) && !decide (s = worldT) && (List.range s.size).all fun i => nameB i (byteAt s i)

/- joints -/
def find : List Joint → ByteArray → Nat → Int
  | [], _, _ => -1
  | j :: js, n, k => if j.name = n then k else find js n (k + 1)
def inV (v : Vec) (m : Int) : Bool := (decide (-m ≤ v.x) && decide (v.x ≤ m)) && (decide (-m ≤ v.y) && decide (v.y ≤ m)) && (decide (-m ≤ v.z) && decide (v.z ≤ m))
def reach (k : Int) : Int := if k = 1 ∨ k = 2 ∨ k = 3 then 524288 else if k = 4 ∨ k = 5 ∨ k = 6 then 4194304 else 0
def from1 (x m : Int) : Bool := decide (1 ≤ x) && decide (x ≤ m)
def jointErr (js : List Joint) (i : Nat) (j : Joint) : Int :=
  if nameOk j.name = false ∨ find js j.name 0 ≠ i then 802
  else if j.kind < 0 ∨ 6 < j.kind then 803
  else if j.parent < -1 ∨ (i : Int) ≤ j.parent then 804
  else if inV j.off 4194304 = false then 805
  else if j.hi < j.lo ∨ j.lo < - reach j.kind ∨ reach j.kind < j.hi then 806
  else if (from1 j.weight 1024 && from1 j.speed 1048576 && from1 j.accel 1048576 && from1 j.torque 1099511627776) = false then 807
  else 0
def jointsErr (js : List Joint) : Nat → List Joint → Int
  | _, [] => 0
  | i, j :: rest => if jointErr js i j = 0 then jointsErr js (i + 1) rest else jointErr js i j
def massOk (n : Nat) (m : Mass) : Bool := decide (0 ≤ m.link) && decide (m.link < n) && from1 m.mass 65536 && inV m.point 4194304
def checkRobot (r : Robot) : Int :=
  if r.joints.length = 0 ∨ 10 < r.joints.length then 801
  else if jointsErr r.joints 0 r.joints ≠ 0 then jointsErr r.joints 0 r.joints
  else if 32 < r.masses.length ∨ r.masses.all (massOk r.joints.length) = false then 808
  else 0
def linkOk (n : Nat) (k : Int) : Bool := decide (-1 ≤ k) && decide (k < n)
def shapeErr (n : Nat) (s : Shape) : Int :=
  if linkOk n s.link = false ∨ s.radius < 1 ∨ 1048576 < s.radius ∨ s.points.length < 1 ∨ 8 < s.points.length then 902
  else if s.points.all (inV · 4194304) = false then 805
  else 0
def shapesErr (n : Nat) : List Shape → Int
  | [] => 0
  | s :: rest => if shapeErr n s = 0 then shapesErr n rest else shapeErr n s
def skipOk (n : Nat) (k : Skip) : Bool := linkOk n k.a && linkOk n k.b
def checkScene (s : Scene) : Int :=
  if checkRobot s.robot ≠ 0 then checkRobot s.robot
  else if 24 < s.shapes.length then 901
  else if shapesErr s.robot.joints.length s.shapes ≠ 0 then shapesErr s.robot.joints.length s.shapes
  else if 64 < s.skips.length then 903
  else if (s.skips.all fun k => linkOk s.robot.joints.length k.a && linkOk s.robot.joints.length k.b) = false then 903
  else 0
end Go.Proofs.YtafglmjadbplcaaDoor

/- Bytes and runes of texts. -/
namespace Go.Proofs.YtafglmjadbplcaaDoor
open Eng
set_option maxRecDepth 10000
attribute [local irreducible] FnOk loopW idxF retX arrF

abbrev Ru (c : Int) : SV := .one (.dv (.int .i32 c))
abbrev By (c : Int) : SV := .one (.dv (.int .u8 c))
theorem byteAt_get {s : ByteArray} {i : Nat} (h : i < s.size) : byteAt s i = ((s[i]'h).toNat : Int) := by
  unfold byteAt; rw [getElem?_pos s i h]; rfl
theorem byteAt_bd (s : ByteArray) (i : Nat) : 0 ≤ byteAt s i ∧ byteAt s i < 256 := by
  unfold byteAt
  have := (s[i]?.getD 0).toNat_lt
  omega
end Go.Proofs.YtafglmjadbplcaaDoor

/- Names. No program in sight. -/
namespace Go.Proofs.YtafglmjadbplcaaDoor
open Eng
set_option maxRecDepth 10000

theorem nameB_low {i : Nat} {c : Int} (h : nameB i c = true) : c < 128 := by
  simp only [nameB, letterB, digitB, Bool.or_eq_true, Bool.and_eq_true, decide_eq_true_eq] at h
  omega
theorem dec_name {s : ByteArray} {i : Nat} (h : i < s.size) : nameB i (Utf8.decode s i).1 = nameB i (byteAt s i) ∧ (nameB i (byteAt s i) = true → (Utf8.decode s i).2 = 1) := by
  have hb := byteAt_get h
  by_cases ha : (s[i]'h).toNat < 128
  · rw [decode_ascii s i h ha, hb]; exact ⟨rfl, fun _ => rfl⟩
  · have := (decode_high s i h (by omega)).1
    have h1 : nameB i (byteAt s i) = false := by
      rcases hn : nameB i (byteAt s i) with _ | _
      · rfl
      · have := nameB_low hn; omega
    have h2 : nameB i ((Utf8.decode s i).1 : Int) = false := by
      rcases hn : nameB i ((Utf8.decode s i).1 : Int) with _ | _
      · rfl
      · have := nameB_low hn; omega
    rw [h1, h2]; exact ⟨rfl, fun h => by cases h⟩
theorem names_take {s : ByteArray} {k : Nat} (h : ((List.range k).all fun i => nameB i (byteAt s i)) = true) (hk : nameB k (byteAt s k) = true) : ((List.range (k + 1)).all fun i => nameB i (byteAt s i)) = true := by
  rw [List.range_succ, List.all_append, h]; simp [hk]
theorem name_not {s : ByteArray} {k : Nat} (hk : k < s.size) (h : nameB k (byteAt s k) = false) : nameOk s = false := by
  have : ((List.range s.size).all fun i => nameB i (byteAt s i)) = false := by
    rw [List.all_eq_false]; exact ⟨k, by simpa using hk, by simp [h]⟩
  simp [nameOk, this]
end Go.Proofs.YtafglmjadbplcaaDoor

/- Names and small numbers: what the code of the chapters 6, 8 and 9 asks of them. -/
namespace Go.Proofs.YtafglmjadbplcaaDoor
open Eng
set_option maxRecDepth 10000
attribute [local irreducible] FnOk loopW idxF retX arrF

theorem token_isLetter (c : Int) : FnOk Tryd.prog F.token_isLetter [Ru c] [] 0 (Bo (letterB c)) [] 0 := by
  refine fnOk tab mix G.token_isLetter rfl rfl (by kernel_rfl) rfl rfl ?_
  repeat' ((conv => whnf); first | refine ask_m (fun h => ?_) (fun h => ?_) | refine ret0 ?_)
  all_goals exact ret_b (by first | (simp_all [letterB]; done) | (simp_all [letterB]; omega)) rfl
theorem token_isDigit (c : Int) : FnOk Tryd.prog F.token_isDigit [Ru c] [] 0 (Bo (digitB c)) [] 0 := by
  refine fnOk tab mix G.token_isDigit rfl rfl (by kernel_rfl) rfl rfl ?_
  repeat' ((conv => whnf); first | refine ask_m (fun h => ?_) (fun h => ?_) | refine ret0 ?_)
  all_goals exact ret_b (by first | (simp_all [digitB]; done) | (simp_all [digitB]; omega)) rfl
theorem token_Name (s : ByteArray) : FnOk Tryd.prog F.token_Name [Tx s] [] 0 (Bo (nameOk s)) [] 0 := by
  refine fnOk tab mix G.token_Name rfl rfl (by kernel_rfl) rfl rfl ?_
  (conv => whnf)
  refine ask_m (fun h => ?_) (fun h => ?_)
  · (conv => whnf)
    refine ret0 ?_
    exact ret_b (by have : s.size = 0 := by simpa using h
                    simp [nameOk, this]) rfl
  have h1 : 1 ≤ s.size := by have : ¬ (s.size : Int) = 0 := by simpa using h
                             omega
  (conv => whnf)
  refine ask_m (fun h => ?_) (fun h => ?_)
  · (conv => whnf)
    refine ret0 ?_
    exact ret_b (by have : ¬ s.size ≤ 16 := by have := of_decide_eq_true h; omega
                    simp [nameOk, this]) rfl
  have h2 : s.size ≤ 16 := by have := of_decide_eq_false h; omega
  (conv => whnf)
  refine ask_m (fun h => ?_) (fun h => ?_)
  · (conv => whnf)
    refine ret0 ?_
    exact ret_b (by have : s = worldT := of_decide_eq_true h
                    subst this; rfl) rfl
  have h3 : decide (s = worldT) = false := h
  (conv => whnf)
  refine loop_intro (fun k : Nat => ⟨[(18, .one (.vptr 0 0))], [(0, .iter s k)], 1⟩) (fun k => k ≤ s.size ∧ ((List.range k).all fun i => nameB i (byteAt s i)) = true) (fun k => s.size - k) [] 0 [] ⟨Nat.zero_le _, rfl⟩ ⟨⟨rfl, trivial⟩, ⟨rfl, trivial⟩⟩ ?_
  rintro k ⟨hk, hall⟩
  (conv => whnf)
  refine ask_m (fun h => ?_) (fun h => ?_)
  · have hlt : k < s.size := of_decide_eq_true h
    obtain ⟨d1, d2⟩ := dec_name hlt
    have bad : nameB k ((Utf8.decode s k).1 : Int) = false → nameOk s = false := fun h => name_not hlt (by rw [← d1]; exact h)
    have good : nameB k ((Utf8.decode s k).1 : Int) = true → (Utf8.decode s k).2 = 1 ∧ ((List.range (k + 1)).all fun i => nameB i (byteAt s i)) = true := fun h => by
      rw [d1] at h
      exact ⟨d2 h, names_take hall h⟩
    generalize ((Utf8.decode s k).1 : Nat) = c at *
    generalize (Utf8.decode s k).2 = w at *
    (conv => whnf)
    refine call_i (token_isLetter c) ?_
    (conv => whnf)
    refine ask_m (fun hl => ?_) (fun hl => ?_)
    · have hl : letterB c = false := by simpa using hl
      (conv => whnf)
      refine ask_m (fun h0 => ?_) (fun h0 => ?_)
      · have h0 : k = 0 := by simpa using h0
        (conv => whnf)
        refine ret0 ?_
        exact ret_b (bad (by simp [nameB, hl, h0])).symm rfl
      have h0 : k ≠ 0 := by simpa using h0
      (conv => whnf)
      refine call_i (token_isDigit c) ?_
      (conv => whnf)
      refine ask_m (fun hd => ?_) (fun hd => ?_)
      · have hd : digitB c = false := by simpa using hd
        (conv => whnf)
        refine ask_m (fun hu => ?_) (fun hu => ?_)
        · have hu : ¬ (c : Int) = 95 := by simpa using hu
          (conv => whnf)
          refine ret0 ?_
          exact ret_b (bad (by simp [nameB, hl, hd, hu])).symm rfl
        · have hu : (c : Int) = 95 := by simpa using hu
          obtain ⟨rfl, g⟩ := good (by simp [nameB, h0, hu])
          (conv => whnf)
          exact ⟨k + 1, [], ⟨hlt, g⟩, by omega, ⟨⟨rfl, trivial⟩, ⟨rfl, trivial⟩⟩⟩
      · have hd : digitB c = true := by simpa using hd
        obtain ⟨rfl, g⟩ := good (by simp [nameB, h0, hd])
        (conv => whnf)
        exact ⟨k + 1, [], ⟨hlt, g⟩, by omega, ⟨⟨rfl, trivial⟩, ⟨rfl, trivial⟩⟩⟩
    · have hl : letterB c = true := by simpa using hl
      obtain ⟨rfl, g⟩ := good (by simp [nameB, hl])
      (conv => whnf)
      exact ⟨k + 1, [], ⟨hlt, g⟩, by omega, ⟨⟨rfl, trivial⟩, ⟨rfl, trivial⟩⟩⟩
  · have hk : k = s.size := by have := of_decide_eq_false h; omega
    subst hk
    (conv => whnf)
    refine ret0 ?_
    exact ret_b (by simp [nameOk, h1, h2, h3, hall]) rfl
end Go.Proofs.YtafglmjadbplcaaDoor

/- Texts cut: the library's IndexByte, Index, Cut, CutPrefix at one byte. -/
namespace Go.Proofs.YtafglmjadbplcaaDoor
open Eng
set_option maxRecDepth 100000
attribute [local irreducible] FnOk loopW idxF retX arrF

theorem still_fn {P : Program} {f : Nat} (he : entered P f = true) {args : List SV} {us : List Value} {sv : SV} {v : Value} (hargs : ∀ (w : World) (N : Nat → Prop) (m : List (Nat × Box)) (β : Nat → Value) (vs : List Value), All2 (SRd w N m β) args vs → vs = us)
    (hres : ∀ (w : World) (N : Nat → Prop) (m : List (Nat × Box)) (β : Nat → Value), SRd w N m β sv v) (hrf : ∀ A, RefS A sv) (hc : ∀ w, Calls P f us.toArray w fun e w' => e = .returned v ∧ w' = w) : FnOk P f args [] 0 sv [] 0 := by
  unfold FnOk
  refine ⟨he, fun w Z vs β ha hm => ?_⟩
  rw [hargs w _ _ _ vs ha]
  refine (hc w).mono ?_
  rintro e w' ⟨rfl, rfl⟩
  exact ⟨v, β, rfl, hres _ _ _ _, hrf _, hm, fun b hb => by omega⟩
theorem lib_IndexByte (s : ByteArray) (c : Int) (w : World) :
    Calls Tryd.prog 94 #[.string s, .int .u8 c] w fun e w' => e = .returned (.int .i64 (Lib.indexByte s.data.toList c.toNat.toUInt8)) ∧ w' = w := by
  go_enter Tryd.func94, Tryd.ntmps94
  go_wp2
  rw [run_callFunc_extern Tryd.func98 (by kernel_rfl) (by kernel_rfl) (by kernel_rfl) (e := Extern.BytealgIndexByte.indexByte) (by kernel_rfl), Lib.run_indexByteString]
  simp only [Result.andThen]
  rw [Oper.upon_value]
  go_wp2
  go_ret
  exact ⟨rfl, rfl⟩
theorem sl_IndexByte (s : ByteArray) (c : Int) : FnOk Tryd.prog F.internal_stringslite_IndexByte [Tx s, By c] [] 0 (I (Lib.indexByte s.data.toList c.toNat.toUInt8)) [] 0 :=
  still_fn (us := [.string s, .int .u8 c]) (v := .int .i64 (Lib.indexByte s.data.toList c.toNat.toUInt8)) (by kernel_rfl) (fun w N m β vs h => by
    obtain ⟨a, r, rfl, h1, h⟩ := all2_cons h
    obtain ⟨b, r, rfl, h2, h⟩ := all2_cons h
    obtain rfl := all2_nil h
    rw [DRd.str_inv h1, DRd.int_inv h2]) (fun w N m β => DRd.int _ _) (fun A => trivial) (lib_IndexByte s c)

/- bytes -/
theorem byteAt_ext {s : ByteArray} {a b i : Nat} (hb : b ≤ s.size) (hi : i < b - a) : byteAt (s.extract a b) i = byteAt s (a + i) := by
  have h1 : i < (s.extract a b).size := by rw [ByteArray.size_extract]; omega
  have h2 : a + i < s.size := by omega
  rw [byteAt_get h1, byteAt_get h2, ByteArray.getElem_extract]
theorem byteAt_list {s : ByteArray} {i : Nat} (h : i < s.size) : s.data.toList[i]? = some (byteAt s i).toNat.toUInt8 := by
  rw [byteAt_get h]
  have h' : i < s.data.toList.length := by simpa using h
  rw [List.getElem?_eq_getElem h']
  simp only [Int.toNat_natCast]
  show some _ = some (UInt8.ofNat (s[i]'h).toNat)
  rw [UInt8.ofNat_toNat]; rfl
theorem byte_eq {s : ByteArray} {i : Nat} {c : UInt8} (h : i < s.size) : s.data.toList[i]? = some c ↔ byteAt s i = c.toNat := by
  rw [byteAt_list h, Option.some.injEq]
  have hb := byteAt_bd s i
  constructor
  · rintro rfl
    show _ = ((UInt8.ofNat _).toNat : Int)
    rw [UInt8.toNat_ofNat']; omega
  · intro e
    rw [e]
    show UInt8.ofNat c.toNat = c
    exact UInt8.ofNat_toNat
theorem index_spec (l : List UInt8) (c : UInt8) : (Lib.indexByte l c = -1 ∧ ∀ i : Nat, l[i]? ≠ some c) ∨ ∃ p : Nat, Lib.indexByte l c = p ∧ l[p]? = some c ∧ ∀ i : Nat, i < p → l[i]? ≠ some c := by
  induction l with
  | nil => exact .inl ⟨rfl, by simp⟩
  | cons b l ih =>
    by_cases hb : b = c
    · subst hb
      exact .inr ⟨0, by simp [Lib.indexByte], rfl, fun i h => by omega⟩
    · have hbe : (b == c) = false := by simpa using hb
      rcases ih with ⟨h1, h2⟩ | ⟨p, h1, h2, h3⟩
      · refine .inl ⟨by rw [Lib.indexByte, hbe, h1]; rfl, fun i => ?_⟩
        cases i with
        | zero => simpa using hb
        | succ i => simpa using h2 i
      · refine .inr ⟨p + 1, ?_, by simpa using h2, fun i hi => ?_⟩
        · rw [Lib.indexByte, hbe, h1, if_neg (by simp), if_neg (by simp)]; omega
        · cases i with
          | zero => simpa using hb
          | succ i => simpa using h3 i (by omega)
/-- the place of the first byte c, or -1 -/
def placeOfB (s : ByteArray) (c : UInt8) : Int := Lib.indexByte s.data.toList c
theorem place_spec (s : ByteArray) (c : UInt8) : (placeOfB s c = -1 ∧ ∀ i : Nat, i < s.size → byteAt s i ≠ c.toNat) ∨ ∃ p : Nat, placeOfB s c = p ∧ p < s.size ∧ byteAt s p = c.toNat ∧ ∀ i : Nat, i < p → byteAt s i ≠ c.toNat := by
  rcases index_spec s.data.toList c with ⟨h1, h2⟩ | ⟨p, h1, h2, h3⟩
  · exact .inl ⟨h1, fun i hi e => h2 i ((byte_eq hi).2 e)⟩
  · have hp : p < s.size := by simpa using (List.getElem?_eq_some_iff.1 h2).1
    exact .inr ⟨p, h1, hp, (byte_eq hp).1 h2, fun i hi e => h3 i hi ((byte_eq (by omega)).2 e)⟩
abbrev oneB (c : UInt8) : ByteArray := ⟨#[c]⟩
theorem sl_Index (s : ByteArray) (c : UInt8) : FnOk Tryd.prog F.internal_stringslite_Index [Tx s, Tx (oneB c)] [] 0 (I (placeOfB s c)) [] 0 := by
  refine fnOk tab mix G.internal_stringslite_Index rfl rfl (by kernel_rfl) rfl rfl ?_
  (conv => whnf)
  refine ask_m (fun h => ?_) (fun h => ?_)
  · have h : oneB c = s := of_decide_eq_true h
    subst h
    have e : placeOfB (oneB c) c = 0 := by
      rcases place_spec (oneB c) c with ⟨_, h⟩ | ⟨p, h1, h2, _⟩
      · exact absurd rfl (h 0 Nat.zero_lt_one)
      · have : p < 1 := h2
        rw [h1]; omega
    rw [e]
    (conv => whnf)
    refine ret0 ?_
    exact ret_i rfl rfl
  · (conv => whnf)
    refine ⟨⟨Int.le_refl _, Int.zero_lt_one⟩, ?_⟩
    (conv => whnf)
    refine call_i (sl_IndexByte s c.toNat) ?_
    (conv => whnf)
    (conv => whnf)
    refine ret0 ?_
    refine ret_i ?_ rfl
    rw [Int.toNat_natCast]
    show Lib.indexByte _ (UInt8.ofNat c.toNat) = _
    rw [UInt8.ofNat_toNat]; rfl
abbrev Cut3 (a b : ByteArray) (c : Bool) : SV := .tup [(false, [.dv (.str a)]), (false, [.dv (.str b)]), (false, [.dv (.bool c)])]
def cutL (s : ByteArray) (c : UInt8) : ByteArray := if 0 ≤ placeOfB s c then s.extract 0 (placeOfB s c).toNat else s
def cutR (s : ByteArray) (c : UInt8) : ByteArray := if 0 ≤ placeOfB s c then s.extract ((placeOfB s c).toNat + 1) s.size else ByteArray.empty
def cutB (s : ByteArray) (c : UInt8) : Bool := decide (0 ≤ placeOfB s c)
theorem sl_Cut (s : ByteArray) (c : UInt8) (hs : s.size ≤ 4611686018427387904) : FnOk Tryd.prog F.internal_stringslite_Cut [Tx s, Tx (oneB c)] [] 0 (Cut3 (cutL s c) (cutR s c) (cutB s c)) [] 0 := by
  refine fnOk tab mix G.internal_stringslite_Cut rfl rfl (by kernel_rfl) rfl rfl ?_
  (conv => whnf)
  refine call_i (sl_Index s c) ?_
  (conv => whnf)
  rw [cutL, cutR, cutB]
  refine ask_m (fun h => ?_) (fun h => ?_)
  · have h : 0 ≤ placeOfB s c := by simpa using h
    have hp : placeOfB s c < s.size := by
      rcases place_spec s c with ⟨h1, _⟩ | ⟨p, h1, h2, _⟩
      · omega
      · omega
    rw [if_pos h, if_pos h, decide_eq_true h]
    generalize placeOfB s c = p at *
    obtain ⟨p, rfl⟩ : ∃ k : Nat, p = k := ⟨p.toNat, by omega⟩
    have w1 : IntKind.i64.wrap ((p : Int) + ((oneB c).size : Nat)) = ((p + 1 : Nat) : Int) := by show IntKind.i64.wrap ((p : Int) + 1) = _; rw [w64] <;> omega
    (conv => whnf)
    refine ⟨⟨by omega, by omega⟩, ?_⟩
    (conv => whnf)
    rw [w1, Int.toNat_natCast]
    refine ⟨⟨by omega, by omega⟩, ?_⟩
    (conv => whnf)
    rw [Int.toNat_natCast]
    (conv => whnf)
    refine ret0 ?_
    exact ⟨[], ⟨rfl, trivial⟩, trivial⟩
  · have h : ¬ 0 ≤ placeOfB s c := by simpa using h
    rw [if_neg h, if_neg h, decide_eq_false h]
    (conv => whnf)
    refine ret0 ?_
    exact ⟨[], ⟨rfl, trivial⟩, trivial⟩
theorem st_Cut (s : ByteArray) (c : UInt8) (hs : s.size ≤ 4611686018427387904) : FnOk Tryd.prog F.strings_Cut [Tx s, Tx (oneB c)] [] 0 (Cut3 (cutL s c) (cutR s c) (cutB s c)) [] 0 := by
  refine fnOk tab mix G.strings_Cut rfl rfl (by kernel_rfl) rfl rfl ?_
  (conv => whnf)
  refine call_i (sl_Cut s c hs) ?_
  (conv => whnf)
  (conv => whnf)
  refine ret0 ?_
  exact ⟨[], ⟨rfl, trivial⟩, trivial⟩
def headB (s : ByteArray) (c : UInt8) : Bool := decide (1 ≤ s.size) && decide (byteAt s 0 = c.toNat)
def tailB (s : ByteArray) (c : UInt8) : ByteArray := if headB s c then s.extract 1 s.size else s
theorem head_ext {s : ByteArray} {c : UInt8} (h : 1 ≤ s.size) : decide (s.extract 0 1 = oneB c) = decide (byteAt s 0 = c.toNat) := by
  have h1 : byteAt (s.extract 0 1) 0 = byteAt s 0 := byteAt_ext (a := 0) h (by decide)
  have h2 : (s.extract 0 1).size = 1 := by rw [ByteArray.size_extract]; omega
  refine decide_eq_decide.2 ⟨fun e => ?_, fun e => ?_⟩
  · rw [← h1, e]; rfl
  · refine ByteArray.ext_getElem h2 fun i hi hi' => ?_
    have h0 : i = 0 := by omega
    subst h0
    have h3 := byteAt_get hi
    rw [h1, e] at h3
    have h4 : c.toNat = ((s.extract 0 1)[0]'hi).toNat := Int.ofNat.inj h3
    exact (UInt8.toNat_inj.1 h4).symm
theorem sl_HasPrefix (s : ByteArray) (c : UInt8) : FnOk Tryd.prog F.internal_stringslite_HasPrefix [Tx s, Tx (oneB c)] [] 0 (Bo (headB s c)) [] 0 := by
  refine fnOk tab mix G.internal_stringslite_HasPrefix rfl rfl (by kernel_rfl) rfl rfl ?_
  (conv => whnf)
  refine ask_m (fun h => ?_) (fun h => ?_)
  · have h : 1 ≤ s.size := by have : ((1 : Nat) : Int) ≤ s.size := of_decide_eq_true h
                              omega
    (conv => whnf)
    refine ⟨⟨Int.zero_le_ofNat 1, by show ((1 : Nat) : Int) ≤ _; omega⟩, ?_⟩
    (conv => whnf)
    refine ret0 ?_
    refine ret_b ?_ rfl
    rw [headB, decide_eq_true h, Bool.true_and]
    exact head_ext h
  · have h : ¬ 1 ≤ s.size := by have : ¬ ((1 : Nat) : Int) ≤ s.size := of_decide_eq_false h
                                omega
    (conv => whnf)
    refine ret0 ?_
    refine ret_b ?_ rfl
    rw [headB, decide_eq_false h, Bool.false_and]
abbrev Cut2 (a : ByteArray) (c : Bool) : SV := .tup [(false, [.dv (.str a)]), (false, [.dv (.bool c)])]
theorem sl_CutPrefix (s : ByteArray) (c : UInt8) : FnOk Tryd.prog F.internal_stringslite_CutPrefix [Tx s, Tx (oneB c)] [] 0 (Cut2 (tailB s c) (headB s c)) [] 0 := by
  refine fnOk tab mix G.internal_stringslite_CutPrefix rfl rfl (by kernel_rfl) rfl rfl ?_
  (conv => whnf)
  refine call_i (sl_HasPrefix s c) ?_
  (conv => whnf)
  refine ask_m (fun h => ?_) (fun h => ?_)
  · have h : headB s c = false := by simpa using h
    rw [tailB, h]
    (conv => whnf)
    refine ret0 ?_
    exact ⟨[], ⟨rfl, trivial⟩, trivial⟩
  · have h : headB s c = true := by simpa using h
    have h1 : 1 ≤ s.size := by rw [headB, Bool.and_eq_true] at h; exact of_decide_eq_true h.1
    rw [tailB, h, if_pos rfl]
    (conv => whnf)
    refine ⟨⟨Int.zero_le_ofNat 1, by show ((1 : Nat) : Int) ≤ _; omega⟩, ?_⟩
    (conv => whnf)
    refine ret0 ?_
    exact ⟨[], ⟨rfl, trivial⟩, trivial⟩
theorem st_CutPrefix (s : ByteArray) (c : UInt8) : FnOk Tryd.prog F.strings_CutPrefix [Tx s, Tx (oneB c)] [] 0 (Cut2 (tailB s c) (headB s c)) [] 0 := by
  refine fnOk tab mix G.strings_CutPrefix rfl rfl (by kernel_rfl) rfl rfl ?_
  (conv => whnf)
  refine call_i (sl_CutPrefix s c) ?_
  (conv => whnf)
  (conv => whnf)
  refine ret0 ?_
  exact ⟨[], ⟨rfl, trivial⟩, trivial⟩
end Go.Proofs.YtafglmjadbplcaaDoor

/- Digits and integers: token and the reference. -/
namespace Go.Proofs.YtafglmjadbplcaaDoor
open Eng
set_option maxRecDepth 10000
attribute [local irreducible] FnOk loopW idxF retX arrF

def allDig (t : ByteArray) (n : Nat) : Bool := (List.range n).all fun i => digitB (byteAt t i)
def dval (t : ByteArray) : Nat → Int
  | 0 => 0
  | k + 1 => dval t k * 10 + (byteAt t k - 48)
def digOk (t : ByteArray) (m : Nat) : Bool := decide (1 ≤ t.size) && decide (t.size ≤ m) && allDig t t.size
def digV (t : ByteArray) (m : Nat) : Int := if digOk t m then dval t t.size else 0
theorem allDig_iff {t : ByteArray} {n : Nat} : allDig t n = true ↔ ∀ i, i < n → digitB (byteAt t i) = true := by simp [allDig]
theorem allDig_succ {t : ByteArray} {n : Nat} : allDig t (n + 1) = (allDig t n && digitB (byteAt t n)) := by simp [allDig, List.range_succ]
theorem digit_bd {c : Int} (h : digitB c = true) : 48 ≤ c ∧ c ≤ 57 := by simp [digitB] at h; exact h
theorem dval_bd {t : ByteArray} : ∀ {n : Nat}, allDig t n = true → 0 ≤ dval t n ∧ dval t n < 10 ^ n
  | 0, _ => ⟨Int.le_refl _, by simp [dval]⟩
  | n + 1, h => by
    rw [allDig_succ, Bool.and_eq_true] at h
    have h1 := dval_bd h.1
    have h2 := digit_bd h.2
    rw [dval, Int.pow_succ]
    omega
theorem pow_mono {a b : Nat} (h : a ≤ b) : (10 : Int) ^ a ≤ 10 ^ b := by
  exact_mod_cast Nat.pow_le_pow_right (by decide) h
theorem dval_15 {t : ByteArray} {n : Nat} (hn : n ≤ 15) (h : allDig t n = true) : 0 ≤ dval t n ∧ dval t n < 1000000000000000 := by
  have h1 := dval_bd h
  have h2 := pow_mono hn
  have h3 : (10 : Int) ^ 15 = 1000000000000000 := by decide
  omega
theorem digOk_inv {t : ByteArray} {m : Nat} (h : digOk t m = true) : 1 ≤ t.size ∧ t.size ≤ m ∧ allDig t t.size = true := by
  simp only [digOk, Bool.and_eq_true, decide_eq_true_eq] at h; exact ⟨h.1.1, h.1.2, h.2⟩
theorem digOk_mk {t : ByteArray} {m : Nat} (h1 : 1 ≤ t.size) (h2 : t.size ≤ m) (h3 : allDig t t.size = true) : digOk t m = true := by
  simp only [digOk, Bool.and_eq_true, decide_eq_true_eq]; exact ⟨⟨h1, h2⟩, h3⟩
theorem digOk_not {t : ByteArray} {m i : Nat} (hi : i < t.size) (h : digitB (byteAt t i) = false) : digOk t m = false := by
  cases hd : digOk t m
  · rfl
  · have := allDig_iff.1 (digOk_inv hd).2.2 i hi
    rw [h] at this; contradiction
theorem digitB_low {c : Int} (h : digitB c = true) : c < 128 := by have := digit_bd h; omega
abbrev DgR (a : Int) (b : Bool) : SV := .tup [(false, [.dv (.int .i64 a)]), (false, [.dv (.bool b)])]
theorem token_digits (t : ByteArray) (m : Nat) (hm : m ≤ 15) : FnOk Tryd.prog F.token_digits [Tx t, I m] [] 0 (DgR (digV t m) (digOk t m)) [] 0 := by
  refine fnOk tab mix G.token_digits rfl rfl (by kernel_rfl) rfl rfl ?_
  (conv => whnf)
  have bad : digOk t m = false → DgR (digV t m) (digOk t m) = DgR 0 false := fun h => by rw [digV, h]; rfl
  refine ask_m (fun h => ?_) (fun h => ?_)
  · have h : t.size = 0 := by simpa using h
    rw [bad (by simp [digOk, h])]
    (conv => whnf)
    refine ret0 ?_
    exact ⟨[], ⟨rfl, trivial⟩, trivial⟩
  have h1 : 1 ≤ t.size := by have : ¬ (t.size : Int) = 0 := by simpa using h
                             omega
  (conv => whnf)
  refine ask_m (fun h => ?_) (fun h => ?_)
  · have h : ¬ t.size ≤ m := by have := of_decide_eq_true h; omega
    rw [bad (by simp [digOk, h])]
    (conv => whnf)
    refine ret0 ?_
    exact ⟨[], ⟨rfl, trivial⟩, trivial⟩
  have h2 : t.size ≤ m := by have := of_decide_eq_false h; omega
  (conv => whnf)
  refine loop_intro (fun k : Nat => ⟨[(6, I (dval t k)), (19, .one (.vptr 0 0))], [(0, .iter t k)], 1⟩) (fun k => k ≤ t.size ∧ allDig t k = true) (fun k => t.size - k) [] 0 [] ⟨Nat.zero_le _, rfl⟩ ⟨⟨rfl, rfl, trivial⟩, ⟨rfl, trivial⟩⟩ ?_
  rintro k ⟨hk, hall⟩
  (conv => whnf)
  refine ask_m (fun h => ?_) (fun h => ?_)
  · have hlt : k < t.size := of_decide_eq_true h
    have F : digitB (Utf8.decode t k).1 = digitB (byteAt t k) ∧ (digitB (byteAt t k) = true → Utf8.decode t k = ((byteAt t k).toNat, 1)) := by
      have hb := byteAt_get hlt
      by_cases ha : (t[k]'hlt).toNat < 128
      · rw [decode_ascii t k hlt ha, hb]; exact ⟨rfl, fun _ => by simp⟩
      · have := (decode_high t k hlt (by omega)).1
        have h1 : digitB (byteAt t k) = false := by
          rcases hn : digitB (byteAt t k) with _ | _
          · rfl
          · have := digitB_low hn; omega
        have h2 : digitB ((Utf8.decode t k).1 : Int) = false := by
          rcases hn : digitB ((Utf8.decode t k).1 : Int) with _ | _
          · rfl
          · have := digitB_low hn; omega
        rw [h1, h2]; exact ⟨rfl, fun h => by cases h⟩
    (conv => whnf)
    refine call_i (token_isDigit (Utf8.decode t k).1) ?_
    (conv => whnf)
    refine ask_m (fun h => ?_) (fun h => ?_)
    · have h : digitB (byteAt t k) = false := by rw [← F.1]; simpa using h
      rw [bad (digOk_not hlt h)]
      (conv => whnf)
      refine ret0 ?_
      exact ⟨[], ⟨rfl, trivial⟩, trivial⟩
    · have h : digitB (byteAt t k) = true := by rw [← F.1]; simpa using h
      have hd := digit_bd h
      have hv := dval_15 (by omega) hall
      rw [F.2 h]
      simp only
      have e : (((byteAt t k).toNat : Nat) : Int) = byteAt t k := by omega
      (conv => whnf)
      rw [e]
      refine ⟨k + 1, [], ⟨hlt, by rw [allDig_succ, hall, h]; rfl⟩, by omega, ⟨⟨eqI ?_, rfl, trivial⟩, ⟨rfl, trivial⟩⟩⟩
      have w1 : IntKind.i32.wrap (byteAt t k - 48) = byteAt t k - 48 := by rw [IntKind.wrap_i32]; omega
      rw [w1, dval, w64 (x := dval t k * 10) (by omega) (by omega), w64 (x := byteAt t k - 48) (by omega) (by omega), w64] <;> omega
  · have hk : k = t.size := by have := of_decide_eq_false h; omega
    subst hk
    have e := digOk_mk h1 h2 hall
    rw [digV, e, if_pos rfl]
    (conv => whnf)
    refine ret0 ?_
    exact ⟨[], ⟨rfl, trivial⟩, trivial⟩
theorem token_signed (n : Int) (b : Bool) (h1 : -4611686018427387904 ≤ n) (h2 : n ≤ 4611686018427387904) : FnOk Tryd.prog F.token_signed [I n, Bo b] [] 0 (I (if b then -n else n)) [] 0 := by
  refine fnOk tab mix G.token_signed rfl rfl (by kernel_rfl) rfl rfl ?_
  (conv => whnf)
  refine ask_m (fun h => ?_) (fun h => ?_)
  · subst h
    (conv => whnf)
    refine ret0 ?_
    exact ret_i (by rw [w64] <;> simp <;> omega) rfl
  · subst h
    (conv => whnf)
    refine ret0 ?_
    exact ret_i rfl rfl

/- the reference -/
theorem dpre_ex (t : ByteArray) : ∃ j, j ≤ t.size ∧ allDig t j = true ∧ (j = t.size ∨ digitB (byteAt t j) = false) := by
  have key : ∀ d j, t.size - j = d → j ≤ t.size → allDig t j = true → ∃ j, j ≤ t.size ∧ allDig t j = true ∧ (j = t.size ∨ digitB (byteAt t j) = false) := by
    intro d
    induction d with
    | zero => intro j h1 h2 h3; exact ⟨j, h2, h3, .inl (by omega)⟩
    | succ d ih =>
      intro j h1 h2 h3
      cases h : digitB (byteAt t j)
      · exact ⟨j, h2, h3, .inr h⟩
      · exact ih (j + 1) (by omega) (by omega) (by rw [allDig_succ, h3, h]; rfl)
  exact key _ 0 rfl (Nat.zero_le _) rfl
theorem dpre_one {t : ByteArray} {j p : Nat} (hj : j ≤ t.size) (h1 : allDig t j = true) (h2 : j = t.size ∨ digitB (byteAt t j) = false) (hp : p ≤ t.size) (h3 : allDig t p = true) (h4 : p = t.size ∨ digitB (byteAt t p) = false) : j = p := by
  rcases Nat.lt_trichotomy j p with h | h | h
  · have := allDig_iff.1 h3 j h
    rcases h2 with h2 | h2
    · omega
    · rw [h2] at this; contradiction
  · exact h
  · have := allDig_iff.1 h1 p h
    rcases h4 with h4 | h4
    · omega
    · rw [h4] at this; contradiction
abbrev DnR (a b : Int) : SV := .tup [(false, [.dv (.int .i64 a)]), (false, [.dv (.int .i64 b)])]
theorem allDig_le {t : ByteArray} {a b : Nat} (h : allDig t b = true) (hab : a ≤ b) : allDig t a = true := allDig_iff.2 fun i hi => allDig_iff.1 h i (by omega)
theorem ref_digits (t : ByteArray) (j : Nat) (ht : t.size ≤ 4611686018427387904) (hj : j ≤ t.size) (h1 : allDig t j = true) (h2 : j = t.size ∨ digitB (byteAt t j) = false) : FnOk Tryd.prog F.ref6_digits [Tx t] [] 0 (DnR j (dval t (min j 15))) [] 0 := by
  refine fnOk tab mix G.ref6_digits rfl rfl (by kernel_rfl) rfl rfl ?_
  (conv => whnf)
  refine loop_intro (fun k : Nat => ⟨[(0, Tx t), (4, I k), (5, I (dval t (min k 15)))], [], 0⟩) (fun k => k ≤ j) (fun k => j - k) [] 0 [] (Nat.zero_le _) ⟨⟨rfl, rfl, rfl, trivial⟩, trivial⟩ ?_
  rintro k hk
  have fin : (k = j → DnR k (dval t (min k 15)) = DnR j (dval t (min j 15))) := fun h => by rw [h]
  have hkk : IntKind.i64.wrap ((k : Int) + 1) = ((k + 1 : Nat) : Int) := by rw [w64] <;> omega
  (conv => whnf)
  refine ask_m (fun h => ?_) (fun h => ?_)
  · have hlt : k < t.size := by simp at h; omega
    have hdj : digitB (byteAt t k) = true → k < j := fun h => by
      rcases Nat.lt_or_ge k j with h' | h'
      · exact h'
      · obtain rfl : k = j := by omega
        rcases h2 with h2 | h2
        · omega
        · rw [h2] at h; contradiction
    have hdn : digitB (byteAt t k) = false → k = j := fun h => by
      rcases Nat.lt_or_ge k j with h' | h'
      · have := allDig_iff.1 h1 k h'
        rw [h] at this; contradiction
      · omega
    (conv => whnf)
    refine ⟨⟨by omega, by omega⟩, ?_⟩
    (conv => whnf)
    rw [Int.toNat_natCast]
    refine ask_m (fun h => ?_) (fun h => ?_)
    · have h48 : 48 ≤ byteAt t k := of_decide_eq_true h
      (conv => whnf)
      refine ⟨⟨by omega, by omega⟩, ?_⟩
      (conv => whnf)
      rw [Int.toNat_natCast]
      refine ask_m (fun h => ?_) (fun h => ?_)
      · have h57 : byteAt t k ≤ 57 := of_decide_eq_true h
        have hd : digitB (byteAt t k) = true := by simp [digitB]; omega
        have hkj := hdj hd
        (conv => whnf)
        refine ask_m (fun h => ?_) (fun h => ?_)
        · have h15 : k < 15 := by have := of_decide_eq_true h; omega
          have hv := dval_15 (Nat.le_of_lt h15) (allDig_le h1 hk)
          (conv => whnf)
          refine ⟨⟨by omega, by omega⟩, ?_⟩
          (conv => whnf)
          rw [Int.toNat_natCast]
          refine ⟨k + 1, [], hkj, by omega, ⟨⟨rfl, eqI hkk, eqI ?_, trivial⟩, trivial⟩⟩
          have w1 : IntKind.u8.wrap (byteAt t k - 48) = byteAt t k - 48 := by rw [IntKind.wrap_u8]; omega
          rw [Nat.min_eq_left (by omega), Nat.min_eq_left (by omega), w1, dval, w64 (x := 10 * dval t k) (by omega) (by omega), w64 (x := byteAt t k - 48) (by omega) (by omega), w64] <;> omega
        · have h15 : ¬ k < 15 := by have := of_decide_eq_false h; omega
          (conv => whnf)
          refine ⟨k + 1, [], hkj, by omega, ⟨⟨rfl, eqI hkk, eqI ?_, trivial⟩, trivial⟩⟩
          rw [Nat.min_eq_right (by omega), Nat.min_eq_right (by omega)]
      · have h57 : ¬ byteAt t k ≤ 57 := of_decide_eq_false h
        have hkj := hdn (by simp [digitB]; omega)
        subst hkj
        (conv => whnf)
        refine ret0 ?_
        exact ⟨[], ⟨rfl, trivial⟩, trivial⟩
    · have h48 : ¬ 48 ≤ byteAt t k := of_decide_eq_false h
      have hkj := hdn (by simp [digitB]; omega)
      subst hkj
      (conv => whnf)
      refine ret0 ?_
      exact ⟨[], ⟨rfl, trivial⟩, trivial⟩
  · have hkj : k = j := by simp at h; omega
    subst hkj
    (conv => whnf)
    refine ret0 ?_
    exact ⟨[], ⟨rfl, trivial⟩, trivial⟩
theorem ref_sign (s : ByteArray) : FnOk Tryd.prog F.ref6_sign [Tx s] [] 0 (Cut2 (tailB s 45) (headB s 45)) [] 0 := by
  refine fnOk tab mix G.ref6_sign rfl rfl (by kernel_rfl) rfl rfl ?_
  (conv => whnf)
  refine ask_m (fun h => ?_) (fun h => ?_)
  · have h1 : 1 ≤ s.size := by have := of_decide_eq_true h; omega
    (conv => whnf)
    refine ⟨⟨by omega, by omega⟩, ?_⟩
    (conv => whnf)
    refine ask_m (fun h => ?_) (fun h => ?_)
    · have h : byteAt s 0 = 45 := by simpa using h
      have hh : headB s 45 = true := by simp only [headB, decide_eq_true h1, Bool.true_and]; exact decide_eq_true h
      rw [tailB, hh, if_pos rfl]
      (conv => whnf)
      refine ⟨⟨by omega, by omega⟩, ?_⟩
      (conv => whnf)
      refine ret0 ?_
      exact ⟨[], ⟨rfl, trivial⟩, trivial⟩
    · have h : ¬ byteAt s 0 = 45 := by simpa using h
      have hh : headB s 45 = false := by simp only [headB, decide_eq_true h1, Bool.true_and]; exact decide_eq_false h
      rw [tailB, hh]
      (conv => whnf)
      refine ret0 ?_
      exact ⟨[], ⟨rfl, trivial⟩, trivial⟩
  · have h1 : ¬ 1 ≤ s.size := by have := of_decide_eq_false h; omega
    have hh : headB s 45 = false := by simp only [headB, decide_eq_false h1, Bool.false_and]
    rw [tailB, hh]
    (conv => whnf)
    refine ret0 ?_
    exact ⟨[], ⟨rfl, trivial⟩, trivial⟩
end Go.Proofs.YtafglmjadbplcaaDoor

/- Number and Integer: token and the reference. -/
namespace Go.Proofs.YtafglmjadbplcaaDoor
open Eng
set_option maxRecDepth 10000
attribute [local irreducible] FnOk loopW idxF retX arrF

/- integers -/
def intOf (s : ByteArray) : Int × Bool := (if headB s 45 then - digV (tailB s 45) 15 else digV (tailB s 45) 15, digOk (tailB s 45) 15)
theorem digV_bd {t : ByteArray} {m : Nat} (hm : m ≤ 15) : 0 ≤ digV t m ∧ digV t m < 1000000000000000 := by
  unfold digV; split
  · rename_i h
    obtain ⟨_, h2, h3⟩ := digOk_inv h
    exact dval_15 (by omega) h3
  · decide
theorem tail_size {s : ByteArray} {c : UInt8} : (tailB s c).size ≤ s.size := by
  unfold tailB; split
  · rw [ByteArray.size_extract]; omega
  · exact Nat.le_refl _
theorem token_Integer (s : ByteArray) : FnOk Tryd.prog F.token_Integer [Tx s] [] 0 (DgR (intOf s).1 (intOf s).2) [] 0 := by
  refine fnOk tab mix G.token_Integer rfl rfl (by kernel_rfl) rfl rfl ?_
  (conv => whnf)
  refine call_i (st_CutPrefix s 45) ?_
  (conv => whnf)
  refine call_i (token_digits (tailB s 45) 15 (by decide)) ?_
  (conv => whnf)
  have h := digV_bd (t := tailB s 45) (m := 15) (by decide)
  refine call_i (token_signed (digV (tailB s 45) 15) (headB s 45) (by omega) (by omega)) ?_
  (conv => whnf)
  (conv => whnf)
  refine ret0 ?_
  exact ⟨[], ⟨rfl, trivial⟩, trivial⟩
theorem ref_Integer (s : ByteArray) (hs : s.size ≤ 4611686018427387904) : FnOk Tryd.prog F.ref6_Integer [Tx s] [] 0 (DgR (intOf s).1 (intOf s).2) [] 0 := by
  refine fnOk tab mix G.ref6_Integer rfl rfl (by kernel_rfl) rfl rfl ?_
  (conv => whnf)
  refine call_i (ref_sign s) ?_
  (conv => whnf)
  have hsz := tail_size (s := s) (c := 45)
  unfold intOf
  generalize headB s 45 = b
  generalize tailB s 45 = t at *
  obtain ⟨j, hj, h1, h2⟩ := dpre_ex t
  refine call_i (ref_digits t j (by omega) hj h1 h2) ?_
  (conv => whnf)
  have bad : digOk t 15 = false → DgR (if b then - digV t 15 else digV t 15) (digOk t 15) = DgR 0 false := fun h => by rw [digV, h]; cases b <;> rfl
  have good : digOk t 15 = true → j = t.size := fun h => by
    obtain ⟨_, _, g⟩ := digOk_inv h
    exact dpre_one hj h1 h2 (Nat.le_refl _) g (.inl rfl)
  have no : ¬ (1 ≤ j ∧ j ≤ 15 ∧ j = t.size) → digOk t 15 = false := fun h => by
    cases hd : digOk t 15
    · rfl
    · have := good hd
      obtain ⟨g1, g2, _⟩ := digOk_inv hd
      exact absurd ⟨by omega, by omega, this⟩ h
  refine ask_m (fun h3 => ?_) (fun h3 => ?_)
  · have h3 := of_decide_eq_true h3
    simp only [bad (no (by omega))]
    (conv => whnf)
    refine ret0 ?_
    exact ⟨[], ⟨rfl, trivial⟩, trivial⟩
  have h3 := of_decide_eq_false h3
  (conv => whnf)
  refine ask_m (fun h4 => ?_) (fun h4 => ?_)
  · have h4 := of_decide_eq_true h4
    simp only [bad (no (by omega))]
    (conv => whnf)
    refine ret0 ?_
    exact ⟨[], ⟨rfl, trivial⟩, trivial⟩
  have h4 := of_decide_eq_false h4
  (conv => whnf)
  refine ask_m (fun h5 => ?_) (fun h5 => ?_)
  · have h5 : ¬ (j : Int) = t.size := by simpa using h5
    simp only [bad (no (by omega))]
    (conv => whnf)
    refine ret0 ?_
    exact ⟨[], ⟨rfl, trivial⟩, trivial⟩
  have h5 : (j : Int) = t.size := by simpa using h5
  have h5 : j = t.size := by omega
  subst h5
  have hd := digOk_mk (m := 15) (by omega) (by omega) h1
  have hv := dval_15 (by omega) h1
  rw [digV, hd, if_pos rfl, Nat.min_eq_left (by omega)]
  (conv => whnf)
  refine ask_m (fun h => ?_) (fun h => ?_)
  · subst h
    (conv => whnf)
    refine ret0 ?_
    exact ⟨[], ⟨by rw [w64 (by omega) (by omega), if_pos rfl, Int.zero_sub]; rfl, trivial⟩, trivial⟩
  · subst h
    (conv => whnf)
    refine ret0 ?_
    exact ⟨[], ⟨rfl, trivial⟩, trivial⟩

/- numbers -/
/-- the number of a text without a sign -/
def numN (t : ByteArray) : Option Int :=
  if digOk (cutL t 46) 5 = false then none
  else if cutB t 46 = false then some ((dval (cutL t 46) (cutL t 46).size * 1000000 * 65536 + 500000) / 1000000)
  else if digOk (cutR t 46) 6 = false then none
  else some (((dval (cutL t 46) (cutL t 46).size * 1000000 + dval (cutR t 46) (cutR t 46).size * 10 ^ (6 - (cutR t 46).size)) * 65536 + 500000) / 1000000)
def numOf (s : ByteArray) : Int × Bool := match numN (tailB s 45) with
  | none => (0, false)
  | some v => if 2147483648 < v then (0, false) else (if headB s 45 then -v else v, true)
abbrev NuR (r : Int × Bool) : SV := DgR r.1 r.2
theorem cutR_size {t : ByteArray} {c : UInt8} : (cutR t c).size ≤ t.size := by
  unfold cutR; split
  · rw [ByteArray.size_extract]; omega
  · exact Nat.zero_le _
theorem token_Number (s : ByteArray) (hs : s.size ≤ 4611686018427387904) : FnOk Tryd.prog F.token_Number [Tx s] [] 0 (NuR (numOf s)) [] 0 := by
  refine fnOk tab mix G.token_Number rfl rfl (by kernel_rfl) rfl rfl ?_
  (conv => whnf)
  refine call_i (st_CutPrefix s 45) ?_
  (conv => whnf)
  have hsz := tail_size (s := s) (c := 45)
  unfold numOf
  generalize headB s 45 = b
  generalize tailB s 45 = t at *
  refine call_i (st_Cut t 46 (by omega)) ?_
  (conv => whnf)
  refine call_i (token_digits (cutL t 46) 5 (by decide)) ?_
  (conv => whnf)
  refine ask_m (fun h1 => ?_) (fun h1 => ?_)
  · have h1 : digOk (cutL t 46) 5 = false := by simpa using h1
    have e : numN t = none := by rw [numN, if_pos h1]
    simp only [e]
    (conv => whnf)
    refine ret0 ?_
    exact ⟨[], ⟨rfl, trivial⟩, trivial⟩
  have h1 : digOk (cutL t 46) 5 = true := by simpa using h1
  have hv : digV (cutL t 46) 5 = dval (cutL t 46) (cutL t 46).size := by rw [digV, if_pos h1]
  obtain ⟨g1, g2, g3⟩ := digOk_inv h1
  have hw := dval_bd g3
  have hw5 := pow_mono g2
  have h105 : (10 : Int) ^ 5 = 100000 := by decide
  have hN : numN t = if cutB t 46 = false then some ((dval (cutL t 46) (cutL t 46).size * 1000000 * 65536 + 500000) / 1000000)
    else if digOk (cutR t 46) 6 = false then none
    else some (((dval (cutL t 46) (cutL t 46).size * 1000000 + dval (cutR t 46) (cutR t 46).size * 10 ^ (6 - (cutR t 46).size)) * 65536 + 500000) / 1000000) := by rw [numN, if_neg (by rw [h1]; simp)]
  rw [hv]
  generalize hwv : dval (cutL t 46) (cutL t 46).size = v at *
  have hv5 : v < 100000 := by omega
  -- the end, for whatever sum
  have last : ∀ n : Int, 0 ≤ n → n < 100000000000 → (IntKind.i64.wrap ((IntKind.i64.wrap (IntKind.i64.wrap (n * 65536) + 500000)).tdiv 1000000)) = (n * 65536 + 500000) / 1000000 ∧ 0 ≤ (n * 65536 + 500000) / 1000000 ∧ (n * 65536 + 500000) / 1000000 < 10000000000 := fun n h0 h1 => by
    have q : 0 ≤ (n * 65536 + 500000) / 1000000 ∧ (n * 65536 + 500000) / 1000000 < 10000000000 := by omega
    refine ⟨?_, q⟩
    rw [w64 (x := n * 65536) (by omega) (by omega), w64 (x := n * 65536 + 500000) (by omega) (by omega), Int.tdiv_eq_ediv_of_nonneg (by omega), w64 (by omega) (by omega)]
  (conv => whnf)
  refine ask_m (fun h2 => ?_) (fun h2 => ?_)
  · have h2 : cutB t 46 = true := h2
    rw [if_neg (by rw [h2]; simp)] at hN
    (conv => whnf)
    refine call_i (token_digits (cutR t 46) 6 (by decide)) ?_
    (conv => whnf)
    refine ask_m (fun h3 => ?_) (fun h3 => ?_)
    · have h3 : digOk (cutR t 46) 6 = false := by simpa using h3
      rw [if_pos h3] at hN
      simp only [hN]
      (conv => whnf)
      refine ret0 ?_
      exact ⟨[], ⟨rfl, trivial⟩, trivial⟩
    have h3 : digOk (cutR t 46) 6 = true := by simpa using h3
    rw [if_neg (by rw [h3]; simp)] at hN
    have hu : digV (cutR t 46) 6 = dval (cutR t 46) (cutR t 46).size := by rw [digV, if_pos h3]
    obtain ⟨f1, f2, f3⟩ := digOk_inv h3
    have hp := dval_bd f3
    rw [hu]
    (conv => whnf)
    generalize dval (cutR t 46) (cutR t 46).size = u at *
    generalize (cutR t 46).size = z at *
    have w6 : IntKind.i64.wrap (6 - (z : Int)) = ((6 - z : Nat) : Int) := by rw [w64] <;> omega
    have hu6 : ∀ i, i ≤ 6 - z → 0 ≤ u * 10 ^ i ∧ u * 10 ^ i < 1000000 := fun i hi => by
      have a1 : (10 : Int) ^ z * 10 ^ i = 10 ^ (z + i) := (Int.pow_add ..).symm
      have a2 : (10 : Int) ^ (z + i) ≤ 10 ^ 6 := pow_mono (by omega)
      have a3 : (0 : Int) < 10 ^ i := Int.pow_pos (by decide)
      have a4 : (10 : Int) ^ 6 = 1000000 := by decide
      have a5 : u * 10 ^ i < 10 ^ z * 10 ^ i := Int.mul_lt_mul_of_pos_right hp.2 a3
      have a6 : 0 ≤ u * 10 ^ i := Int.mul_nonneg hp.1 (by omega)
      omega
    rw [w6]
    refine loop_intro (fun i : Nat => ⟨[(5, Bo b), (9, I (IntKind.i64.wrap (v * 1000000))), (11, I (u * 10 ^ i)), (43, I ((6 - z : Nat) : Int)), (44, I i)], [], 0⟩) (fun i => i ≤ 6 - z) (fun i => 6 - z - i) [] 0 [] (Nat.zero_le _) ⟨⟨rfl, rfl, eqI (by simp), rfl, rfl, trivial⟩, trivial⟩ ?_
    rintro i hi
    (conv => whnf)
    refine ask_m (fun h => ?_) (fun h => ?_)
    · have hlt : i < 6 - z := by have := of_decide_eq_true h; omega
      have a1 := hu6 i hi
      have a2 := hu6 (i + 1) hlt
      have hii : IntKind.i64.wrap ((i : Int) + 1) = ((i + 1 : Nat) : Int) := by rw [w64] <;> omega
      (conv => whnf)
      refine ⟨i + 1, [], hlt, by omega, ⟨⟨rfl, rfl, eqI ?_, rfl, eqI hii, trivial⟩, trivial⟩⟩
      rw [w64 (by omega) (by omega), Int.pow_succ, Int.mul_assoc]
    · have hi6 : i = 6 - z := by have := of_decide_eq_false h; omega
      subst hi6
      have a1 := hu6 _ hi
      obtain ⟨l1, l2, l3⟩ := last (v * 1000000 + u * 10 ^ (6 - z)) (by omega) (by omega)
      (conv => whnf)
      refine ⟨by omega, ?_⟩
      (conv => whnf)
      rw [w64 (x := v * 1000000) (by omega) (by omega), w64 (x := v * 1000000 + u * 10 ^ (6 - z)) (by omega) (by omega), l1]
      simp only [hN]
      generalize ((v * 1000000 + u * 10 ^ (6 - z)) * 65536 + 500000) / 1000000 = q at *
      refine ask_m (fun h4 => ?_) (fun h4 => ?_)
      · have h4 := of_decide_eq_true h4
        rw [if_pos h4]
        (conv => whnf)
        refine ret0 ?_
        exact ⟨[], ⟨rfl, trivial⟩, trivial⟩
      · have h4 := of_decide_eq_false h4
        rw [if_neg h4]
        (conv => whnf)
        refine call_i (token_signed q b (by omega) (by omega)) ?_
        (conv => whnf)
        (conv => whnf)
        refine ret0 ?_
        exact ⟨[], ⟨rfl, trivial⟩, trivial⟩
  · have h2 : cutB t 46 = false := h2
    rw [if_pos h2] at hN
    obtain ⟨l1, l2, l3⟩ := last (v * 1000000) (by omega) (by omega)
    (conv => whnf)
    refine ⟨by omega, ?_⟩
    (conv => whnf)
    rw [w64 (x := v * 1000000) (by omega) (by omega), l1]
    simp only [hN]
    generalize (v * 1000000 * 65536 + 500000) / 1000000 = q at *
    refine ask_m (fun h4 => ?_) (fun h4 => ?_)
    · have h4 := of_decide_eq_true h4
      rw [if_pos h4]
      (conv => whnf)
      refine ret0 ?_
      exact ⟨[], ⟨rfl, trivial⟩, trivial⟩
    · have h4 := of_decide_eq_false h4
      rw [if_neg h4]
      (conv => whnf)
      refine call_i (token_signed q b (by omega) (by omega)) ?_
      (conv => whnf)
      (conv => whnf)
      refine ret0 ?_
      exact ⟨[], ⟨rfl, trivial⟩, trivial⟩
end Go.Proofs.YtafglmjadbplcaaDoor

/- The reference's Name. -/
namespace Go.Proofs.YtafglmjadbplcaaDoor
open Eng
set_option maxRecDepth 10000
attribute [local irreducible] FnOk loopW idxF retX arrF

theorem ref_Name (s : ByteArray) : FnOk Tryd.prog F.ref6_Name [Tx s] [] 0 (Bo (nameOk s)) [] 0 := by
  refine fnOk tab mix G.ref6_Name rfl rfl (by kernel_rfl) rfl rfl ?_
  (conv => whnf)
  refine ask_m (fun h => ?_) (fun h => ?_)
  · (conv => whnf)
    refine ret0 ?_
    exact ret_b (by have : ¬ 1 ≤ s.size := by have := of_decide_eq_true h; omega
                    simp [nameOk, this]) rfl
  have h1 : 1 ≤ s.size := by have := of_decide_eq_false h; omega
  (conv => whnf)
  refine ask_m (fun h => ?_) (fun h => ?_)
  · (conv => whnf)
    refine ret0 ?_
    exact ret_b (by have : ¬ s.size ≤ 16 := by have := of_decide_eq_true h; omega
                    simp [nameOk, this]) rfl
  have h2 : s.size ≤ 16 := by have := of_decide_eq_false h; omega
  (conv => whnf)
  refine ask_m (fun h => ?_) (fun h => ?_)
  · (conv => whnf)
    refine ret0 ?_
    exact ret_b (by have : s = worldT := of_decide_eq_true h
                    subst this; rfl) rfl
  have h3 : decide (s = worldT) = false := h
  (conv => whnf)
  refine loop_intro (fun k : Nat => ⟨[(0, Tx s), (3, I k)], [], 0⟩) (fun k => k ≤ s.size ∧ ((List.range k).all fun i => nameB i (byteAt s i)) = true) (fun k => s.size - k) [] 0 [] ⟨Nat.zero_le _, rfl⟩ ⟨⟨rfl, rfl, trivial⟩, trivial⟩ ?_
  rintro k ⟨hk, hall⟩
  have hkk : IntKind.i64.wrap ((k : Int) + 1) = ((k + 1 : Nat) : Int) := by rw [w64] <;> omega
  (conv => whnf)
  refine ask_m (fun h => ?_) (fun h => ?_)
  · have hlt : k < s.size := by have := of_decide_eq_true h; omega
    have bad : nameB k (byteAt s k) = false → nameOk s = false := name_not hlt
    have good : nameB k (byteAt s k) = true → ((List.range (k + 1)).all fun i => nameB i (byteAt s i)) = true := fun h => names_take hall h
    have hN : nameB k (byteAt s k) = (letterB (byteAt s k) || (decide (k ≠ 0) && (digitB (byteAt s k) || decide (byteAt s k = 95)))) := rfl
    have ix : ((0 : Int) ≤ k ∧ (k : Int) < s.size) := ⟨by omega, by omega⟩
    have e1 : byteAt s (k : Int).toNat = byteAt s k := rfl
    clear h
    repeat' ((conv => whnf); first | refine ask_m (fun h => ?_) (fun h => ?_) | refine ⟨ix, ?_⟩ | refine ret0 ?_)
    all_goals (try rw [e1] at *)
    all_goals generalize byteAt s k = c at *
    all_goals first
      | (refine ret_b (bad ?_).symm rfl; clear bad good; simp_all [letterB, digitB]; done)
      | (refine ret_b (bad ?_).symm rfl; clear bad good; simp_all [letterB, digitB]; omega)
      | (refine ⟨k + 1, [], ⟨hlt, good ?_⟩, by omega, ⟨⟨rfl, eqI hkk, trivial⟩, trivial⟩⟩; clear bad good; simp_all [letterB, digitB]; done)
      | (refine ⟨k + 1, [], ⟨hlt, good ?_⟩, by omega, ⟨⟨rfl, eqI hkk, trivial⟩, trivial⟩⟩; clear bad good; simp_all [letterB, digitB]; omega)
  · have hk : k = s.size := by have := of_decide_eq_false h; omega
    subst hk
    (conv => whnf)
    refine ret0 ?_
    exact ret_b (by simp [nameOk, h1, h2, h3, hall]) rfl
end Go.Proofs.YtafglmjadbplcaaDoor

/- The reference's Name and Number. -/
namespace Go.Proofs.YtafglmjadbplcaaDoor
open Eng
set_option maxRecDepth 10000
attribute [local irreducible] FnOk loopW idxF retX arrF

theorem allDig_ext {t : ByteArray} {a n : Nat} (h : a + n ≤ t.size) : allDig (t.extract a (a + n)) n = (List.range n).all fun i => digitB (byteAt t (a + i)) := by
  unfold allDig
  rw [Bool.eq_iff_iff, List.all_eq_true, List.all_eq_true]
  refine ⟨fun H i hi => ?_, fun H i hi => ?_⟩
  · have := H i hi
    rwa [byteAt_ext h (by have := List.mem_range.1 hi; omega)] at this
  · rw [byteAt_ext h (by have := List.mem_range.1 hi; omega)]; exact H i hi
theorem dval_ext {t : ByteArray} {j : Nat} (hj : j ≤ t.size) : ∀ i, i ≤ j → dval (t.extract 0 j) i = dval t i
  | 0, _ => rfl
  | i + 1, h => by rw [dval, dval, dval_ext hj i (by omega), byteAt_ext hj (by omega), Nat.zero_add]
theorem allDig_pre {t : ByteArray} {j : Nat} (hj : j ≤ t.size) : allDig (t.extract 0 j) j = allDig t j := by
  have := allDig_ext (t := t) (a := 0) (n := j) (by omega)
  simp only [Nat.zero_add] at this
  rw [this]; rfl
theorem not46 {c : Int} (h : digitB c = true) : c ≠ 46 := by have := digit_bd h; omega
theorem place_eq {t : ByteArray} {j : Nat} (hj : j < t.size) (h : byteAt t j = 46) (hb : ∀ i, i < j → byteAt t i ≠ 46) : placeOfB t 46 = j := by
  rcases place_spec t 46 with ⟨_, h2⟩ | ⟨p, h1, h2, h3, h4⟩
  · exact absurd h (h2 j hj)
  · rw [h1]
    rcases Nat.lt_trichotomy p j with hlt | rfl | hlt
    · exact absurd h3 (hb p hlt)
    · rfl
    · exact absurd h (h4 j hlt)
theorem place_none {t : ByteArray} (h : ∀ i, i < t.size → byteAt t i ≠ 46) : placeOfB t 46 = -1 := by
  rcases place_spec t 46 with ⟨h1, _⟩ | ⟨p, h1, h2, h3, h4⟩
  · exact h1
  · exact absurd h3 (h p h2)
/-- numN, told by the length of the first digits -/
theorem numN_whole {t : ByteArray} (h1 : allDig t t.size = true) (h2 : 1 ≤ t.size) (h3 : t.size ≤ 5) : numN t = some (dval t t.size * 65536) := by
  have hp : placeOfB t 46 = -1 := place_none fun i hi => not46 (allDig_iff.1 h1 i hi)
  have hl : cutL t 46 = t := by rw [cutL, hp, if_neg (by decide)]
  have hc : cutB t 46 = false := by rw [cutB, hp]; rfl
  have hv := dval_15 (by omega) h1
  rw [numN, hl, hc, if_neg (by rw [digOk_mk h2 h3 h1]; simp), if_pos rfl]
  congr 1; omega
theorem numN_first {t : ByteArray} {j : Nat} (hj : j ≤ t.size) (h1 : allDig t j = true) (h2 : j = t.size ∨ digitB (byteAt t j) = false) (h : ¬ (1 ≤ j ∧ j ≤ 5)) : numN t = none := by
  rw [numN, if_pos]
  cases hd : digOk (cutL t 46) 5
  · rfl
  · obtain ⟨g1, g2, g3⟩ := digOk_inv hd
    rcases place_spec t 46 with ⟨p1, p2⟩ | ⟨p, p1, p2, p3, p4⟩
    · have hl : cutL t 46 = t := by rw [cutL, p1, if_neg (by decide)]
      rw [hl] at g1 g2 g3
      have := dpre_one hj h1 h2 (Nat.le_refl _) g3 (.inl rfl)
      omega
    · have hl : cutL t 46 = t.extract 0 p := by rw [cutL, p1, if_pos (by omega), Int.toNat_natCast]
      have hs : (t.extract 0 p).size = p := by rw [ByteArray.size_extract]; omega
      rw [hl, hs] at g1 g2 g3
      rw [allDig_pre (by omega)] at g3
      have h46 : digitB (byteAt t p) = false := by rw [p3]; rfl
      have := dpre_one hj h1 h2 (by omega) g3 (.inr h46)
      omega
theorem numN_other {t : ByteArray} {j : Nat} (hj : j < t.size) (h1 : allDig t j = true) (h2 : digitB (byteAt t j) = false) (h : byteAt t j ≠ 46) : numN t = none := by
  rw [numN, if_pos]
  rcases place_spec t 46 with ⟨p1, p2⟩ | ⟨p, p1, p2, p3, p4⟩
  · have hl : cutL t 46 = t := by rw [cutL, p1, if_neg (by decide)]
    rw [hl]; exact digOk_not hj h2
  · have hjp : j < p := by
      rcases Nat.lt_trichotomy p j with hlt | rfl | hlt
      · exact absurd p3 (not46 (allDig_iff.1 h1 p hlt))
      · exact absurd p3 h
      · exact hlt
    have hl : cutL t 46 = t.extract 0 p := by rw [cutL, p1, if_pos (by omega), Int.toNat_natCast]
    rw [hl]
    refine digOk_not (i := j) (by rw [ByteArray.size_extract]; omega) ?_
    rw [byteAt_ext (by omega) (by omega), Nat.zero_add]; exact h2
theorem numN_point {t : ByteArray} {j : Nat} (hj : j < t.size) (h1 : allDig t j = true) (h46 : byteAt t j = 46) (ha : 1 ≤ j) (hb : j ≤ 5) :
    numN t = if digOk (t.extract (j + 1) t.size) 6 = false then none else some (((dval t j * 1000000 + dval (t.extract (j + 1) t.size) (t.extract (j + 1) t.size).size * 10 ^ (6 - (t.extract (j + 1) t.size).size)) * 65536 + 500000) / 1000000) := by
  have hp := place_eq hj h46 fun i hi => not46 (allDig_iff.1 h1 i hi)
  have hl : cutL t 46 = t.extract 0 j := by rw [cutL, hp, if_pos (by omega), Int.toNat_natCast]
  have hr : cutR t 46 = t.extract (j + 1) t.size := by rw [cutR, hp, if_pos (by omega), Int.toNat_natCast]
  have hc : cutB t 46 = true := by rw [cutB, hp]; exact decide_eq_true (by omega)
  have hs : (t.extract 0 j).size = j := by rw [ByteArray.size_extract]; omega
  have hd : digOk (t.extract 0 j) 5 = true := digOk_mk (by omega) (by omega) (by rw [hs, allDig_pre (by omega)]; exact h1)
  rw [numN, hl, hr, hc, hs, dval_ext (by omega) j (Nat.le_refl _), if_neg (by rw [hd]; simp), if_neg (by simp)]
theorem round_eq {v u : Int} {k : Nat} (h1 : 1 ≤ k) (h6 : k ≤ 6) (hu : 0 ≤ u) : ((v * 1000000 + u * 10 ^ (6 - k)) * 65536 + 500000) / 1000000 = v * 65536 + (2 * u * 65536 + 10 ^ k) / (2 * 10 ^ k) := by
  have h : k = 1 ∨ k = 2 ∨ k = 3 ∨ k = 4 ∨ k = 5 ∨ k = 6 := by omega
  rcases h with rfl | rfl | rfl | rfl | rfl | rfl <;> simp only [Nat.reduceSub, Int.reducePow] <;> omega
theorem ref_Number (s : ByteArray) (hs : s.size ≤ 4611686018427387904) : FnOk Tryd.prog F.ref6_Number [Tx s] [] 0 (NuR (numOf s)) [] 0 := by
  refine fnOk tab mix G.ref6_Number rfl rfl (by kernel_rfl) rfl rfl ?_
  (conv => whnf)
  refine call_i (ref_sign s) ?_
  (conv => whnf)
  have hsz := tail_size (s := s) (c := 45)
  unfold numOf
  generalize headB s 45 = b
  generalize tailB s 45 = t at *
  obtain ⟨j, hj, h1, h2⟩ := dpre_ex t
  refine call_i (ref_digits t j (by omega) hj h1 h2) ?_
  (conv => whnf)
  refine ask_m (fun h3 => ?_) (fun h3 => ?_)
  · have h3 := of_decide_eq_true h3
    simp only [numN_first hj h1 h2 (by omega)]
    (conv => whnf)
    refine ret0 ?_
    exact ⟨[], ⟨rfl, trivial⟩, trivial⟩
  have h3 := of_decide_eq_false h3
  (conv => whnf)
  refine ask_m (fun h4 => ?_) (fun h4 => ?_)
  · have h4 := of_decide_eq_true h4
    simp only [numN_first hj h1 h2 (by omega)]
    (conv => whnf)
    refine ret0 ?_
    exact ⟨[], ⟨rfl, trivial⟩, trivial⟩
  have h4 := of_decide_eq_false h4
  have hv := dval_15 (by omega) h1
  have hv5 := (dval_bd h1).2
  have hp5 := pow_mono (show j ≤ 5 by omega)
  have h105 : (10 : Int) ^ 5 = 100000 := by decide
  rw [Nat.min_eq_left (by omega)]
  have hes : (t.extract j t.size).size = t.size - j := by rw [ByteArray.size_extract]; omega
  (conv => whnf)
  refine ⟨⟨by omega, by omega⟩, ?_⟩
  (conv => whnf)
  rw [Int.toNat_natCast, w64 (x := dval t j * 65536) (by omega) (by omega)]
  -- the end, for whatever sum
  refine ask_m (fun h5 => ?_) (fun h5 => ?_)
  · have h5 := of_decide_eq_true h5
    have hjl : j < t.size := by omega
    have h2 := h2.resolve_left (by omega)
    have hee : (t.extract j t.size).extract 1 (t.extract j t.size).size = t.extract (j + 1) t.size := by
      rw [ByteArray.extract_extract]; congr 1; rw [hes]; omega
    have hb0 : byteAt (t.extract j t.size) 0 = byteAt t j := by rw [byteAt_ext (Nat.le_refl _) (by omega), Nat.add_zero]
    (conv => whnf)
    refine ⟨⟨by omega, by omega⟩, ?_⟩
    (conv => whnf)
    rw [show (1 : Int).toNat = 1 from rfl, hee]
    have hfs : (t.extract (j + 1) t.size).size = t.size - (j + 1) := by rw [ByteArray.size_extract]; omega
    generalize hf : t.extract (j + 1) t.size = f at *
    obtain ⟨k, hk, k1, k2⟩ := dpre_ex f
    refine call_i (ref_digits f k (by omega) hk k1 k2) ?_
    (conv => whnf)
    refine ⟨⟨by omega, by omega⟩, ?_⟩
    (conv => whnf)
    rw [show (0 : Int).toNat = 0 from rfl, hb0]
    refine ask_m (fun h46 => ?_) (fun h46 => ?_)
    · have h46 : ¬ byteAt t j = 46 := by simpa using h46
      simp only [numN_other hjl h1 h2 h46]
      (conv => whnf)
      refine ret0 ?_
      exact ⟨[], ⟨rfl, trivial⟩, trivial⟩
    have h46 : byteAt t j = 46 := by simpa using h46
    have hN := numN_point hjl h1 h46 (by omega) (by omega)
    rw [hf] at hN
    have no : ¬ (1 ≤ k ∧ k ≤ 6 ∧ k = f.size) → numN t = none := fun h => by
      rw [hN, if_pos]
      cases hd : digOk f 6
      · rfl
      · obtain ⟨g1, g2, g3⟩ := digOk_inv hd
        have := dpre_one hk k1 k2 (Nat.le_refl _) g3 (.inl rfl)
        exact absurd ⟨by omega, by omega, this⟩ h
    (conv => whnf)
    refine ask_m (fun h6 => ?_) (fun h6 => ?_)
    · have h6 := of_decide_eq_true h6
      simp only [no (by omega)]
      (conv => whnf)
      refine ret0 ?_
      exact ⟨[], ⟨rfl, trivial⟩, trivial⟩
    have h6 := of_decide_eq_false h6
    (conv => whnf)
    refine ask_m (fun h7 => ?_) (fun h7 => ?_)
    · have h7 := of_decide_eq_true h7
      simp only [no (by omega)]
      (conv => whnf)
      refine ret0 ?_
      exact ⟨[], ⟨rfl, trivial⟩, trivial⟩
    have h7 := of_decide_eq_false h7
    (conv => whnf)
    rw [w64 (x := ((t.extract j t.size).size : Int) - 1) (by omega) (by omega)]
    refine ask_m (fun h8 => ?_) (fun h8 => ?_)
    · have h8 : ¬ (k : Int) = ((t.extract j t.size).size : Int) - 1 := by simpa using h8
      simp only [no (by omega)]
      (conv => whnf)
      refine ret0 ?_
      exact ⟨[], ⟨rfl, trivial⟩, trivial⟩
    have h8 : (k : Int) = ((t.extract j t.size).size : Int) - 1 := by simpa using h8
    have hkf : k = f.size := by omega
    rw [if_neg (by rw [digOk_mk (by omega) (by omega) (hkf ▸ k1)]; simp), ← hkf] at hN
    have hu := dval_15 (by omega) k1
    have hu6 := (dval_bd k1).2
    have hp6 := pow_mono (show k ≤ 6 by omega)
    have h106 : (10 : Int) ^ 6 = 1000000 := by decide
    rw [round_eq (by omega) (by omega) hu.1] at hN
    rw [Nat.min_eq_left (by omega)]
    generalize dval f k = u at *
    generalize dval t j = v at *
    (conv => whnf)
    refine loop_intro (fun i : Nat => ⟨[(5, Bo b), (8, I (v * 65536)), (9, I k), (10, I u), (11, I (10 ^ i)), (12, I i)], [], 0⟩) (fun i => i ≤ k) (fun i => k - i) [] 0 [] (Nat.zero_le _) ⟨⟨rfl, rfl, rfl, rfl, rfl, rfl, trivial⟩, trivial⟩ ?_
    rintro i hi
    (conv => whnf)
    refine ask_m (fun h => ?_) (fun h => ?_)
    · have hlt : i < k := by have := of_decide_eq_true h; omega
      have hii : IntKind.i64.wrap ((i : Int) + 1) = ((i + 1 : Nat) : Int) := by rw [w64] <;> omega
      have a1 := pow_mono (show i + 1 ≤ 6 by omega)
      have a3 : (0 : Int) < 10 ^ (i + 1) := Int.pow_pos (by decide)
      rw [Int.pow_succ] at a1 a3
      (conv => whnf)
      refine ⟨i + 1, [], hlt, by omega, ⟨⟨rfl, rfl, rfl, rfl, eqI ?_, eqI hii, trivial⟩, trivial⟩⟩
      rw [w64 (by omega) (by omega), Int.pow_succ]
    · have hik : i = k := by have := of_decide_eq_false h; omega
      subst hik
      have a3 : (0 : Int) < 10 ^ i := Int.pow_pos (by decide)
      have q1 : 0 ≤ (2 * u * 65536 + 10 ^ i) / (2 * 10 ^ i) := Int.ediv_nonneg (by omega) (by omega)
      have q2 : (2 * u * 65536 + 10 ^ i) / (2 * 10 ^ i) ≤ 65536 := by
        have : (2 * u * 65536 + 10 ^ i) / (2 * 10 ^ i) < 65537 := Int.ediv_lt_of_lt_mul (by omega) (by omega)
        omega
      (conv => whnf)
      rw [w64 (x := 2 * u) (by omega) (by omega), w64 (x := 2 * u * 65536) (by omega) (by omega), w64 (x := 2 * u * 65536 + 10 ^ i) (by omega) (by omega), w64 (x := 2 * 10 ^ i) (by omega) (by omega)]
      refine ⟨by omega, ?_⟩
      (conv => whnf)
      rw [Int.tdiv_eq_ediv_of_nonneg (by omega)]
      simp only [hN]
      generalize (2 * u * 65536 + 10 ^ i) / (2 * 10 ^ i) = q at *
      rw [w64 (x := q) (by omega) (by omega), w64 (x := v * 65536 + q) (by omega) (by omega)]
      refine ask_m (fun h9 => ?_) (fun h9 => ?_)
      · have h9 := of_decide_eq_true h9
        rw [if_pos h9]
        (conv => whnf)
        refine ret0 ?_
        exact ⟨[], ⟨rfl, trivial⟩, trivial⟩
      · have h9 := of_decide_eq_false h9
        rw [if_neg h9]
        (conv => whnf)
        refine ask_m (fun hb => ?_) (fun hb => ?_)
        · subst hb
          (conv => whnf)
          refine ret0 ?_
          exact ⟨[], ⟨by rw [w64 (by omega) (by omega), if_pos rfl, Int.zero_sub]; rfl, trivial⟩, trivial⟩
        · subst hb
          (conv => whnf)
          refine ret0 ?_
          exact ⟨[], ⟨rfl, trivial⟩, trivial⟩
  · have h5 := of_decide_eq_false h5
    have hjs : j = t.size := by omega
    subst hjs
    simp only [numN_whole h1 (by omega) (by omega)]
    generalize dval t t.size = v at *
    (conv => whnf)
    refine ask_m (fun h9 => ?_) (fun h9 => ?_)
    · have h9 := of_decide_eq_true h9
      rw [if_pos h9]
      (conv => whnf)
      refine ret0 ?_
      exact ⟨[], ⟨rfl, trivial⟩, trivial⟩
    · have h9 := of_decide_eq_false h9
      rw [if_neg h9]
      (conv => whnf)
      refine ask_m (fun hb => ?_) (fun hb => ?_)
      · subst hb
        (conv => whnf)
        refine ret0 ?_
        exact ⟨[], ⟨by rw [w64 (by omega) (by omega), if_pos rfl, Int.zero_sub]; rfl, trivial⟩, trivial⟩
      · subst hb
        (conv => whnf)
        refine ret0 ?_
        exact ⟨[], ⟨rfl, trivial⟩, trivial⟩
end Go.Proofs.YtafglmjadbplcaaDoor

/- ref.Decimal. -/
namespace Go.Proofs.YtafglmjadbplcaaDoor
open Eng
set_option maxRecDepth 10000
attribute [local irreducible] FnOk loopW idxF retX arrF

def dig (d : Nat) : ByteArray := ⟨#[(48 + d).toUInt8]⟩
/-- the last k digits of n -/
def decB : Nat → Nat → ByteArray
  | 0, _ => ByteArray.empty
  | k + 1, n => dig (n / 10 ^ k % 10) ++ decB k n
theorem dig_cut (d : Nat) (h : d < 10) : (ByteArray.mk #[48, 49, 50, 51, 52, 53, 54, 55, 56, 57]).extract d (d + 1) = dig d := by
  have h' : ∀ d, d < 10 → (ByteArray.mk #[48, 49, 50, 51, 52, 53, 54, 55, 56, 57]).extract d (d + 1) = dig d := by decide
  exact h' d h
theorem decB_size (k n : Nat) : (decB k n).size = k := by
  induction k with
  | zero => rfl
  | succ k ih => rw [decB, ByteArray.size_append, ih]; show 1 + k = k + 1; omega
theorem ref_Decimal (n k j : Nat) (hn : n ≤ 9223372036854775807) (h0 : n / 10 ^ j = 0) (h1 : k ≤ j) (hj : j ≤ 1000) (hmin : ∀ i, i < j → ¬ (n / 10 ^ i = 0 ∧ k ≤ i)) : FnOk Tryd.prog F.ref6_Decimal [I n, I k] [] 0 (Tx (decB j n)) [] 0 := by
  refine fnOk tab mix G.ref6_Decimal rfl rfl (by kernel_rfl) rfl rfl ?_
  (conv => whnf)
  refine loop_intro (fun i : Nat => ⟨[(0, I (n / 10 ^ i : Nat)), (1, I k), (5, Tx (decB i n))], [], 0⟩) (fun i => i ≤ j) (fun i => j - i) [] 0 [] (Nat.zero_le _) ⟨⟨eqI (by simp), rfl, rfl, trivial⟩, trivial⟩ ?_
  rintro i hi
  have hsz := decB_size i n
  have hlt : ¬ (n / 10 ^ i = 0 ∧ k ≤ i) → i < j := fun h => Nat.lt_of_le_of_ne hi fun e => h ⟨e ▸ h0, e ▸ h1⟩
  have hmin' := hmin i
  have hnext : n / 10 ^ (i + 1) = n / 10 ^ i / 10 := by rw [Nat.pow_succ, Nat.div_div_eq_div_mul]
  have hdec : decB (i + 1) n = dig (n / 10 ^ i % 10) ++ decB i n := rfl
  have hdiv : n / 10 ^ i ≤ n := Nat.div_le_self _ _
  generalize n / 10 ^ i = d at *
  have h3 : ((d : Nat) : Int).tmod 10 = ((d % 10 : Nat) : Int) := by rw [Int.tmod_eq_emod_of_nonneg (by omega)]; omega
  have h4 : IntKind.i64.wrap ((d : Int).tdiv 10) = ((d / 10 : Nat) : Int) := by rw [Int.tdiv_eq_ediv_of_nonneg (by omega), w64 (by omega) (by omega)]; omega
  have h5 : IntKind.i64.wrap (((d % 10 : Nat) : Int) + 1) = ((d % 10 + 1 : Nat) : Int) := by rw [w64 (by omega) (by omega)]; omega
  (conv => whnf)
  refine ask_m (fun h => ?_) (fun h => ?_)
  rotate_left
  (conv => whnf)
  refine ask_m (fun h => ?_) (fun h => ?_)
  rotate_left
  · have e : i = j := by
      rename_i h'
      simp at h h'
      exact Nat.le_antisymm hi (Nat.le_of_not_lt fun hij => hmin' hij ⟨by omega, by omega⟩)
    subst e
    (conv => whnf)
    refine ret0 ?_
    exact ret_dv rfl rfl
  all_goals
    have hij : i < j := hlt (by simp at h; omega)
    (conv => whnf)
    refine ⟨by omega, ?_⟩
    (conv => whnf)
    rw [h3, h5]
    refine ⟨⟨by omega, by omega, by show _ ≤ (10 : Int); omega⟩, ?_⟩
    (conv => whnf)
    rw [Int.toNat_natCast, Int.toNat_natCast, dig_cut _ (by omega)]
    refine ⟨by rw [hsz]; show 1 + i ≤ _; omega, ?_⟩
    (conv => whnf)
    refine ⟨by omega, ?_⟩
    (conv => whnf)
    refine ⟨i + 1, [], hij, by omega, ⟨⟨eqI (by rw [h4, hnext]), rfl, ?_, trivial⟩, trivial⟩⟩
    rw [hdec]; rfl
end Go.Proofs.YtafglmjadbplcaaDoor

/- Digits of decimal texts. No program in sight. -/
namespace Go.Proofs.YtafglmjadbplcaaDoor
open Eng
set_option maxRecDepth 10000

theorem byteAt_app {a b : ByteArray} {i : Nat} : byteAt (a ++ b) i = if i < a.size then byteAt a i else byteAt b (i - a.size) := by
  by_cases h1 : i < a.size
  · have h : i < (a ++ b).size := by rw [ByteArray.size_append]; omega
    rw [if_pos h1, byteAt_get h, byteAt_get h1, ByteArray.getElem_append_left h1]
  · rw [if_neg h1]
    by_cases h2 : i - a.size < b.size
    · have h : i < (a ++ b).size := by rw [ByteArray.size_append]; omega
      rw [byteAt_get h, byteAt_get h2, ByteArray.getElem_append_right (by omega)]
    · have g1 : ∀ (s : ByteArray) (k : Nat), s.size ≤ k → byteAt s k = 0 := fun s k hk => by
        unfold byteAt; rw [getElem?_neg s k (by omega)]; rfl
      rw [g1 _ _ (by rw [ByteArray.size_append]; omega), g1 _ _ (by omega)]
theorem dig_byte {d : Nat} (h : d < 10) : byteAt (dig d) 0 = 48 + d := by
  have : ∀ d, d < 10 → byteAt (dig d) 0 = 48 + (d : Int) := by decide
  exact this d h
theorem decB_byte (n : Nat) : ∀ (k i : Nat), i < k → byteAt (decB k n) i = 48 + (n / 10 ^ (k - 1 - i) % 10 : Nat)
  | 0, _, h => by omega
  | k + 1, i, h => by
    rw [decB, byteAt_app]
    have hs : (dig (n / 10 ^ k % 10)).size = 1 := rfl
    rw [hs]
    by_cases h0 : i < 1
    · obtain rfl : i = 0 := by omega
      rw [if_pos h0, dig_byte (by omega)]; simp
    · rw [if_neg h0, decB_byte n k (i - 1) (by omega)]
      rw [show k - 1 - (i - 1) = k + 1 - 1 - i by omega]
end Go.Proofs.YtafglmjadbplcaaDoor

/- Variables that hold robots and scenes. -/
namespace Go.Proofs.YtafglmjadbplcaaDoor
open Eng
abbrev bRo (r : Robot) : Box := .vars Y.Robot [.dv (dJs r.joints), .dv (dMs r.masses)]
abbrev bSc (s : Scene) : Box := .vars Y.Scene [.dv (dJs s.robot.joints), .dv (dMs s.robot.masses), .dv (dShs s.shapes), .dv (dSks s.skips)]
end Go.Proofs.YtafglmjadbplcaaDoor

/- Bytes and texts as parameters; tables of texts. -/
namespace Go.Proofs.YtafglmjadbplcaaDoor
open Eng
set_option maxRecDepth 10000

def encB (n : Int) : List DV := [.int .u8 n]
abbrev Lb (xs : List Int) : SV := .one (.dv (.lst 1 (xs.map encB)))
def bytesOk (xs : List Int) : Prop := xs.length ≤ 140737488351232 ∧ ∀ x ∈ xs, 0 ≤ x ∧ x < 256
theorem wf_u8 {a : Int} (h : (Lit.int .u8 a).wf = true) : 0 ≤ a ∧ a < 256 := by
  have h' : IntKind.u8.min ≤ a ∧ a ≤ IntKind.u8.max := by simpa [Lit.wf] using h
  have e1 : IntKind.u8.min = 0 := by decide
  have e2 : IntKind.u8.max = 255 := by decide
  omega
theorem tyB_uint8 {n : Nat} {ds : List DV} (h : Typed T (n + 1) Y.uint8 ds) : ∃ a, ds = encB a ∧ 0 ≤ a ∧ a < 256 := by
  obtain ⟨a, h1, h2⟩ := h
  exact ⟨a, h1, wf_u8 h2⟩
theorem tyB_string {n : Nat} {ds : List DV} (h : Typed T (n + 1) Y.string ds) : ∃ s : ByteArray, ds = [.str s] ∧ s.size ≤ 140737488351232 := by
  obtain ⟨s, h1, h2⟩ := h
  refine ⟨s, h1, ?_⟩
  unfold reachBytes at h2; omega
/-- the text of a table -/
theorem arr_text {te : TI} {tb : List ByteArray} {i : Nat} {s : ByteArray} {k : SV → Prop} (ha : te.kind.agg = false) (hs : te.size = 1) (hc : tb[i]? = some s) (h : k (Tx s)) : arrF te (tb.map fun s => CV.dv (.str s)) i k :=
  arr_at ha hs (by rw [List.getElem?_map, hc]; rfl) h
/-- texts of a table, one behind the other -/
def cat (f : Int → ByteArray) (xs : List Int) : ByteArray := xs.foldl (fun s x => s ++ f x) ByteArray.empty
theorem cat_succ {f : Int → ByteArray} {xs : List Int} {k : Nat} {x : Int} (h : xs[k]? = some x) : cat f (xs.take (k + 1)) = cat f (xs.take k) ++ f x := by
  rw [List.take_add_one, h, cat, List.foldl_append]; rfl
theorem cat_size {f : Int → ByteArray} {c : Nat} (hf : ∀ x, (f x).size ≤ c) (xs : List Int) : (cat f xs).size ≤ xs.length * c := by
  have key : ∀ (xs : List Int) (s : ByteArray), (xs.foldl (fun s x => s ++ f x) s).size ≤ s.size + xs.length * c := by
    intro xs
    induction xs with
    | nil => intro s; simp
    | cons x xs ih =>
      intro s
      have := ih (s ++ f x)
      rw [ByteArray.size_append] at this
      have := hf x
      simp only [List.foldl_cons, List.length_cons, Nat.succ_mul]
      omega
  have := key xs ByteArray.empty
  simpa [cat] using this
theorem u8mod {x m : Int} (h0 : 0 ≤ x) (hm : 0 < m) : x.tmod m = x % m := Int.tmod_eq_emod_of_nonneg h0
end Go.Proofs.YtafglmjadbplcaaDoor

/- Statements as data. -/
namespace Go.Proofs.YtafglmjadbplcaaDoor
open Eng

structure Stmt where
  line : Int
  word : ByteArray
  args : List ByteArray
deriving DecidableEq
def encA (s : ByteArray) : List DV := [.str s]
def encSt (s : Stmt) : List DV := [.int .i64 s.line, .str s.word, .lst 1 (s.args.map encA)]
abbrev dSts (l : List Stmt) : DV := .lst 3 (l.map encSt)
def wJoint : ByteArray := ⟨#[106, 111, 105, 110, 116]⟩
def wLimit : ByteArray := ⟨#[108, 105, 109, 105, 116]⟩
def wMass : ByteArray := ⟨#[109, 97, 115, 115]⟩
def wShape : ByteArray := ⟨#[115, 104, 97, 112, 101]⟩
def wSkip : ByteArray := ⟨#[115, 107, 105, 112]⟩
/-- statements in lines of their own -/
def numb : Nat → List (ByteArray × List ByteArray) → List Stmt
  | _, [] => []
  | n, p :: l => ⟨(n : Int) + 1, p.1, p.2⟩ :: numb (n + 1) l
theorem numb_app : ∀ (n : Nat) (a b : List (ByteArray × List ByteArray)), numb n (a ++ b) = numb n a ++ numb (n + a.length) b
  | n, [], b => rfl
  | n, p :: a, b => by
    rw [List.cons_append, numb, numb, numb_app (n + 1) a b, List.length_cons, show n + 1 + a.length = n + (a.length + 1) by omega]; rfl
theorem numb_len : ∀ (n : Nat) (a : List (ByteArray × List ByteArray)), (numb n a).length = a.length
  | _, [] => rfl
  | n, p :: a => by rw [numb, List.length_cons, numb_len, List.length_cons]
theorem numb_snoc (B : List (ByteArray × List ByteArray)) (w : ByteArray) (xs : List ByteArray) : (numb 0 (B ++ [(w, xs)])).map encSt = (numb 0 B).map encSt ++ [[.int .i64 ((B.length : Int) + 1), .str w, .lst 1 (xs.map encA)]] := by
  rw [numb_app, List.map_append, Nat.zero_add]; rfl
end Go.Proofs.YtafglmjadbplcaaDoor

/- The reference's numbers and names as words: ref.Format, written, kindName, linkName. -/
namespace Go.Proofs.YtafglmjadbplcaaDoor
open Eng
set_option maxRecDepth 10000
attribute [local irreducible] FnOk loopW idxF retX arrF

/-- how many digits a number has, at least k -/
def dl : Nat → Nat → Nat → Nat
  | 0, _, _ => 0
  | f + 1, n, k => if n = 0 ∧ k = 0 then 0 else dl f (n / 10) (k - 1) + 1
theorem dl_spec : ∀ (f n k : Nat), n < 10 ^ f → k ≤ f → n / 10 ^ dl f n k = 0 ∧ k ≤ dl f n k ∧ dl f n k ≤ f ∧ ∀ i, i < dl f n k → ¬ (n / 10 ^ i = 0 ∧ k ≤ i)
  | 0, n, k, hn, hk => by
    have : n = 0 := by simpa using hn
    subst this
    exact ⟨by simp, hk, Nat.le_refl _, fun i hi => absurd hi (Nat.not_lt_zero _)⟩
  | f + 1, n, k, hn, hk => by
    rw [dl]
    split
    · rename_i h
      exact ⟨by simp [h.1], by omega, by omega, fun i hi => absurd hi (Nat.not_lt_zero _)⟩
    · rename_i h
      obtain ⟨a, b, c, d⟩ := dl_spec f (n / 10) (k - 1) (by rw [Nat.pow_succ] at hn; omega) (by omega)
      have e : ∀ i, n / 10 ^ (i + 1) = n / 10 / 10 ^ i := fun i => by rw [Nat.pow_succ', Nat.div_div_eq_div_mul]
      refine ⟨by rw [e]; exact a, by omega, by omega, fun i hi => ?_⟩
      cases i with
      | zero => rintro ⟨h1, h2⟩; exact h ⟨by simpa using h1, by omega⟩
      | succ i => rintro ⟨h1, h2⟩; rw [e] at h1; exact d i (by omega) ⟨h1, by omega⟩
def decT (n k : Nat) : ByteArray := decB (dl 20 n k) n
theorem dl20 {n k : Nat} (hn : n ≤ 9223372036854775807) (hk : k ≤ 20) : n / 10 ^ dl 20 n k = 0 ∧ k ≤ dl 20 n k ∧ dl 20 n k ≤ 20 ∧ ∀ i, i < dl 20 n k → ¬ (n / 10 ^ i = 0 ∧ k ≤ i) :=
  dl_spec 20 n k (Nat.lt_of_le_of_lt hn (by decide)) hk
theorem decT_size {n k : Nat} (hn : n ≤ 9223372036854775807) (hk : k ≤ 20) : (decT n k).size ≤ 20 ∧ k ≤ (decT n k).size := by
  obtain ⟨_, b, c, _⟩ := dl20 hn hk
  rw [decT, decB_size]; exact ⟨c, b⟩
theorem ref_DecimalT (n k : Nat) (hn : n ≤ 9223372036854775807) (hk : k ≤ 20) : FnOk Tryd.prog F.ref6_Decimal [I n, I k] [] 0 (Tx (decT n k)) [] 0 := by
  obtain ⟨a, b, c, d⟩ := dl20 hn hk
  exact ref_Decimal n k _ hn a b (by omega) d
/-- without the zeros at the end -/
def trimN (t : ByteArray) : Nat → Nat
  | 0 => 0
  | n + 1 => if byteAt t n = 48 then trimN t n else n + 1
theorem trimN_le (t : ByteArray) : ∀ n, trimN t n ≤ n
  | 0 => Nat.le_refl _
  | n + 1 => by
    rw [trimN]; split
    · have := trimN_le t n; omega
    · exact Nat.le_refl _
def minusT : ByteArray := ⟨#[45]⟩
def dotT : ByteArray := ⟨#[46]⟩
def clampI (n : Int) : Int := max (-2147483648) (min n 2147483648)
def fracT (f : Nat) : ByteArray := (decT ((2 * f * 100000 + 65536) / 131072) 5).extract 0 (trimN (decT ((2 * f * 100000 + 65536) / 131072) 5) (decT ((2 * f * 100000 + 65536) / 131072) 5).size)
def fmtS (s : ByteArray) (a : Nat) : ByteArray := if a % 65536 = 0 then s ++ decT (a / 65536) 1 else ((s ++ decT (a / 65536) 1) ++ dotT) ++ fracT (a % 65536)
def fmtT (n : Int) : ByteArray := fmtS (if clampI n < 0 then minusT else ByteArray.empty) (clampI n).natAbs
theorem digs_zero (n : Nat) : ∀ k, (∀ i, i < k → n / 10 ^ i % 10 = 0) → n % 10 ^ k = 0
  | 0, _ => by simp [Nat.mod_one]
  | k + 1, h => by
    rw [Nat.mod_pow_succ, digs_zero n k fun i hi => h i (by omega), h k (by omega), Nat.mul_zero]
theorem decT_some {v : Nat} (h1 : 1 ≤ v) (h2 : v ≤ 99999) : ∃ i, i < (decT v 5).size ∧ byteAt (decT v 5) i ≠ 48 := by
  obtain ⟨a, b, c, d⟩ := dl20 (n := v) (k := 5) (by omega) (by omega)
  rw [decT, decB_size]
  generalize dl 20 v 5 = j at *
  by_cases hex : ∃ i, i < j ∧ v / 10 ^ i % 10 ≠ 0
  · obtain ⟨i, hi, hne⟩ := hex
    refine ⟨j - 1 - i, by omega, ?_⟩
    rw [decB_byte v j _ (by omega), show j - 1 - (j - 1 - i) = i by omega]
    omega
  · have := digs_zero v j fun i hi => Classical.byContradiction fun hne => hex ⟨i, hi, hne⟩
    have hlt : v < 10 ^ j := by
      rcases Nat.lt_or_ge v (10 ^ j) with h | h
      · exact h
      · have := Nat.div_pos h (Nat.pow_pos (by decide : 0 < 10)); omega
    rw [Nat.mod_eq_of_lt hlt] at this
    omega
theorem ext_byte {t : ByteArray} {k i : Nat} (hk : k ≤ t.size) (hi : i < k) : byteAt (t.extract 0 k) i = byteAt t i := by
  have hs : (t.extract 0 k).size = k := by simp; omega
  rw [byteAt_get (by omega), byteAt_get (by omega : i < t.size), ByteArray.getElem_extract]
  congr 2
  simp
theorem ext_ext {t : ByteArray} {k j : Nat} (hk : j ≤ k) (hk2 : k ≤ t.size) : (t.extract 0 k).extract 0 j = t.extract 0 j := by
  rw [ByteArray.extract_extract]; congr 1; omega
theorem ref_Format (n : Int) : FnOk Tryd.prog F.ref6_Format [I n] [] 0 (Tx (fmtT n)) [] 0 := by
  refine fnOk tab mix G.ref6_Format rfl rfl (by kernel_rfl) rfl rfl ?_
  (conv => whnf)
  have hX : max (-2147483648 : Int) (min n 2147483648) = clampI n := rfl
  rw [hX]
  have hb : -2147483648 ≤ clampI n ∧ clampI n ≤ 2147483648 := by unfold clampI; omega
  have hF : fmtT n = fmtS (if clampI n < 0 then minusT else ByteArray.empty) (clampI n).natAbs := rfl
  rw [hF]
  clear hX hF
  generalize clampI n = x at *
  refine ask_m (fun h => ?_) (fun h => ?_)
  case' refine_1 =>
    have h : x < 0 := by simpa using h
    rw [if_pos h]
    obtain ⟨a, ha⟩ : ∃ a : Nat, x = - (a : Int) := ⟨x.natAbs, by omega⟩
    have hna : x.natAbs = a := by omega
    have hw : IntKind.i64.wrap (0 - x) = (a : Int) := by rw [w64] <;> omega
    rw [hna]
    have hsg : minusT.size ≤ 1 := by decide
    obtain ⟨sgn, hsgn⟩ : ∃ sgn : ByteArray, sgn = minusT := ⟨_, rfl⟩
    rw [← hsgn]
    have hab : a ≤ 2147483648 := by omega
    (conv => whnf)
    rw [hw]
  case' refine_2 =>
    have h : ¬ x < 0 := by simpa using h
    rw [if_neg h]
    obtain ⟨a, ha⟩ : ∃ a : Nat, x = (a : Int) := ⟨x.natAbs, by omega⟩
    have hna : x.natAbs = a := by omega
    rw [hna]
    have hsg : ByteArray.empty.size ≤ 1 := by decide
    obtain ⟨sgn, hsgn⟩ : ∃ sgn : ByteArray, sgn = ByteArray.empty := ⟨_, rfl⟩
    rw [← hsgn]
    have hab : a ≤ 2147483648 := by omega
    subst ha
    (conv => whnf)
  all_goals
    have q1 : IntKind.i64.wrap ((a : Int).tdiv 65536) = ((a / 65536 : Nat) : Int) := by rw [Int.tdiv_eq_ediv_of_nonneg (by omega), w64 (by omega) (by omega)]; omega
    have q2 : (a : Int).tmod 65536 = ((a % 65536 : Nat) : Int) := by rw [Int.tmod_eq_emod_of_nonneg (by omega)]; omega
    have z1 := decT_size (n := a / 65536) (k := 1) (by omega) (by omega)
    refine ⟨(by decide : (65536 : Int) ≠ 0), ?_⟩
    (conv => whnf)
    rw [q1]
    refine call_i (ref_DecimalT (a / 65536) 1 (by omega) (by omega)) ?_
    (conv => whnf)
    refine ⟨(Nat.le_trans (Nat.add_le_add hsg z1.1) (by decide)), ?_⟩
    (conv => whnf)
    refine ⟨(by decide : (65536 : Int) ≠ 0), ?_⟩
    (conv => whnf)
    rw [q2]
    refine ask_m (fun h0 => ?_) (fun h0 => ?_)
    · have h0 : a % 65536 = 0 := by simp at h0; omega
      (conv => whnf)
      refine ret0 ?_
      exact ret_dv (by rw [fmtS, if_pos h0, hsgn]; rfl) rfl
    have h0 : ¬ a % 65536 = 0 := by simp at h0; omega
    rw [fmtS, if_neg h0]
    have hf1 : 1 ≤ a % 65536 ∧ a % 65536 ≤ 65535 := by omega
    generalize a % 65536 = f at *
    have q3 : IntKind.i64.wrap ((IntKind.i64.wrap (IntKind.i64.wrap (IntKind.i64.wrap (2 * (f : Int)) * 100000) + 65536)).tdiv 131072) = (((2 * f * 100000 + 65536) / 131072 : Nat) : Int) := by
      rw [w64 (x := 2 * (f : Int)) (by omega) (by omega), w64 (x := 2 * (f : Int) * 100000) (by omega) (by omega), w64 (x := 2 * (f : Int) * 100000 + 65536) (by omega) (by omega), Int.tdiv_eq_ediv_of_nonneg (by omega), w64 (by omega) (by omega)]; omega
    have hv : 1 ≤ (2 * f * 100000 + 65536) / 131072 ∧ (2 * f * 100000 + 65536) / 131072 ≤ 99999 := by omega
    (conv => whnf)
    refine ⟨(by decide : (131072 : Int) ≠ 0), ?_⟩
    (conv => whnf)
    rw [q3]
    refine call_i (ref_DecimalT ((2 * f * 100000 + 65536) / 131072) 5 (by omega) (by omega)) ?_
    (conv => whnf)
    have hs := decT_some hv.1 hv.2
    have z2 := decT_size (n := (2 * f * 100000 + 65536) / 131072) (k := 5) (by omega) (by omega)
    rw [fracT]
    generalize decT ((2 * f * 100000 + 65536) / 131072) 5 = t at *
    rw [← hsgn] at hsg
    generalize decT (a / 65536) 1 = d at *
    refine loop_intro (fun k : Nat => ⟨[(4, Tx (sgn ++ d)), (6, Tx (t.extract 0 k))], [], 0⟩) (fun k => k ≤ t.size ∧ trimN t k = trimN t t.size ∧ ∃ i, i < k ∧ byteAt t i ≠ 48) (fun k => k) [] t.size [] ⟨Nat.le_refl _, rfl, hs⟩ ⟨⟨congrArg Tx (by rw [hsgn]; rfl), congrArg Tx (by simp), trivial⟩, trivial⟩ ?_
    rintro k ⟨hk, htr, i, hi, hne⟩
    have hsz : (t.extract 0 k).size = k := by simp; omega
    have hk1 : IntKind.i64.wrap (((t.extract 0 k).size : Int) - 1) = ((k - 1 : Nat) : Int) := by rw [hsz, w64] <;> omega
    (conv => whnf)
    rw [hk1]
    refine ⟨⟨by omega, by rw [hsz]; omega⟩, ?_⟩
    (conv => whnf)
    rw [Int.toNat_natCast, ext_byte hk (by omega)]
    rw [show k = k - 1 + 1 by omega, trimN] at htr
    refine ask_m (fun h8 => ?_) (fun h8 => ?_)
    · have h8 : byteAt t (k - 1) = 48 := by simpa using h8
      rw [if_pos h8] at htr
      (conv => whnf)
      rw [hk1]
      refine ⟨⟨by omega, by rw [hsz]; omega⟩, ?_⟩
      (conv => whnf)
      rw [Int.toNat_natCast]
      refine ⟨k - 1, [], ⟨by omega, htr, i, ?_, hne⟩, by omega, ⟨⟨rfl, congrArg Tx (ext_ext (by omega) hk), trivial⟩, trivial⟩⟩
      rcases Nat.lt_or_ge i (k - 1) with h | h
      · exact h
      · rw [show i = k - 1 by omega] at hne; exact absurd h8 hne
    · have h8 : ¬ byteAt t (k - 1) = 48 := by simpa using h8
      rw [if_neg h8, show k - 1 + 1 = k by omega] at htr
      rw [← htr]
      (conv => whnf)
      refine ⟨(by rw [ByteArray.size_append]; show _ + 1 ≤ _; omega), ?_⟩
      (conv => whnf)
      refine ⟨(by rw [ByteArray.size_append, ByteArray.size_append, hsz]; show _ + 1 + _ ≤ _; omega), ?_⟩
      (conv => whnf)
      (conv => whnf)
      refine ret0 ?_
      exact ret_dv rfl rfl
def kindTab : List ByteArray := [⟨#[102, 105, 120, 101, 100]⟩, ⟨#[116, 117, 114, 110, 120]⟩, ⟨#[116, 117, 114, 110, 121]⟩, ⟨#[116, 117, 114, 110, 122]⟩, ⟨#[115, 108, 105, 100, 101, 120]⟩, ⟨#[115, 108, 105, 100, 101, 121]⟩, ⟨#[115, 108, 105, 100, 101, 122]⟩]
def kindN (k : Int) : ByteArray := kindTab.getD k.toNat ByteArray.empty
theorem kindN_at {k : Int} (h0 : 0 ≤ k) (h6 : k ≤ 6) : kindTab[k.toNat]? = some (kindN k) := by
  have h : k.toNat < kindTab.length := by show _ < 7; omega
  rw [kindN, List.getD_eq_getElem?_getD, List.getElem?_eq_getElem h]; rfl
theorem ref_kindName (k : Int) (h0 : 0 ≤ k) (h6 : k ≤ 6) : FnOk Tryd.prog F.ref6_kindName [I k] [] 0 (Tx (kindN k)) [] 0 := by
  refine fnOk tab mix G.ref6_kindName rfl rfl (by kernel_rfl) rfl rfl ?_
  (conv => whnf)
  refine ⟨⟨by omega, by show _ < (7 : Int); omega⟩, ?_⟩
  refine arr_text (tb := kindTab) rfl rfl (kindN_at h0 h6) ?_
  (conv => whnf)
  refine ret0 ?_
  exact ret_dv rfl rfl
def linkN (js : List Joint) (k : Int) : ByteArray := if k = -1 then worldT else match js[k.toNat]? with
  | some j => j.name
  | none => ByteArray.empty
theorem ref_linkName (r : Robot) (k : Int) (h0 : -1 ≤ k) (h1 : k < r.joints.length) : FnOk Tryd.prog F.ref6_linkName [Ro r, I k] [] 0 (Tx (linkN r.joints k)) [] 0 := by
  refine fnOk tab mix G.ref6_linkName rfl rfl (by kernel_rfl) rfl rfl ?_
  (conv => whnf)
  refine ask_m (fun h => ?_) (fun h => ?_)
  · have h : k = -1 := of_decide_eq_true h
    (conv => whnf)
    refine ret0 ?_
    exact ret_dv (by rw [linkN, if_pos h]; rfl) rfl
  have h : ¬ k = -1 := of_decide_eq_false h
  obtain ⟨n, rfl⟩ : ∃ n : Nat, k = n := ⟨k.toNat, by omega⟩
  obtain ⟨j, hj⟩ : ∃ j, r.joints[n]? = some j := ⟨_, List.getElem?_eq_getElem (by omega)⟩
  (conv => whnf)
  refine idx_and (by omega) (by simpa using hj) ?_
  (conv => whnf)
  refine ret0 ?_
  exact ret_dv (by rw [linkN, if_neg h, Int.toNat_natCast, hj]) rfl
theorem ref_written (xs : List Int) (hl : xs.length ≤ 1000) : FnOk Tryd.prog F.ref6_written [Li xs] [] 0 (.one (.dv (.lst 1 ((xs.map fmtT).map encA)))) [] 0 := by
  refine fnOk tab mix G.ref6_written rfl rfl (by kernel_rfl) rfl rfl ?_
  (conv => whnf)
  refine loop_intro (fun k : Nat => ⟨[(0, Li xs), (3, .one (.row 0)), (4, I k)], [(0, .rows Y.string 1 (((xs.take k).map fmtT).map encA))], 1⟩) (fun k => k ≤ xs.length) (fun k => xs.length - k) [.own 3 Y.string 1] 0 [] (Nat.zero_le _) ⟨⟨rfl, rfl, rfl, trivial⟩, ⟨rfl, trivial⟩⟩ ?_
  rintro k hk
  have hkk : IntKind.i64.wrap ((k : Int) + 1) = ((k + 1 : Nat) : Int) := by rw [w64] <;> omega
  (conv => whnf)
  refine ask_m (fun h => ?_) (fun h => ?_)
  · have hlt : k < xs.length := by simpa using h
    obtain ⟨x, hx⟩ : ∃ x, xs[k]? = some x := ⟨_, List.getElem?_eq_getElem hlt⟩
    (conv => whnf)
    refine idx_and (by omega) (by simpa using hx) ?_
    (conv => whnf)
    refine call_i (ref_Format x) ?_
    (conv => whnf)
    refine ⟨⟨by simp; omega, by simp; omega⟩, ?_⟩
    (conv => whnf)
    refine ⟨k + 1, [(0, 2)], hlt, by omega, ⟨⟨rfl, rfl, eqI hkk, trivial⟩, ⟨?_, trivial⟩⟩⟩
    exact congrArg (Box.rows Y.string 1) (show ((xs.take k).map fmtT).map encA ++ [[.str (fmtT x)]] = ((xs.take (k + 1)).map fmtT).map encA by rw [List.take_add_one, hx]; simp [encA])
  · have hk : k = xs.length := by simp at h; omega
    subst hk
    (conv => whnf)
    refine retO [.frz 0] ?_
    (conv => whnf)
    exact ⟨[], ⟨congrArg (fun q => SV.one (.dv (.lst 1 q))) (show ((xs.take xs.length).map fmtT).map encA = _ by rw [List.take_length]), trivial⟩, trivial⟩
end Go.Proofs.YtafglmjadbplcaaDoor

/- Finding joints. No program in sight. -/
namespace Go.Proofs.YtafglmjadbplcaaDoor
open Eng
set_option maxRecDepth 10000

theorem find_at : ∀ {js : List Joint} {i k : Nat} {j : Joint}, js[i]? = some j → (∀ (i' : Nat) (j' : Joint), i' < i → js[i']? = some j' → j'.name ≠ j.name) → find js j.name k = ((k + i : Nat) : Int)
  | [], _, _, _, h, _ => by simp at h
  | x :: js, 0, k, j, h, _ => by
    simp at h; subst h
    rw [find, if_pos rfl]; rfl
  | x :: js, i + 1, k, j, h, hn => by
    have h1 := hn 0 x (by omega) rfl
    rw [find, if_neg h1, find_at (i := i) (k := k + 1) (by simpa using h) fun i' j' hi hj => hn (i' + 1) j' (by omega) (by simpa using hj)]
    omega
theorem jointsErr_zero {js : List Joint} : ∀ {l : List Joint} {i : Nat}, (∀ (k : Nat) (j : Joint), l[k]? = some j → jointErr js (i + k) j = 0) → jointsErr js i l = 0
  | [], _, _ => rfl
  | x :: l, i, h => by
    have h0 : jointErr js i x = 0 := h 0 x rfl
    rw [jointsErr, if_pos h0]
    exact jointsErr_zero fun k j hj => by
      have := h (k + 1) j (by simpa using hj)
      rw [← this]; congr 1; omega
theorem reach_cases (k : Int) : reach k = 0 ∨ reach k = 524288 ∨ reach k = 4194304 := by
  unfold reach; repeat' split
  all_goals simp
def bodyOk (i : Nat) (j : Joint) : Prop := (0 ≤ j.kind ∧ j.kind ≤ 6) ∧ (-1 ≤ j.parent ∧ j.parent < (i : Int)) ∧ inV j.off 4194304 = true ∧ (j.lo ≤ j.hi ∧ - reach j.kind ≤ j.lo ∧ j.hi ≤ reach j.kind) ∧ (from1 j.weight 1024 && from1 j.speed 1048576 && from1 j.accel 1048576 && from1 j.torque 1099511627776) = true
theorem jointErr_zero {js : List Joint} {i : Nat} {j : Joint} (h1 : nameOk j.name = true) (h2 : find js j.name 0 = i) (h : bodyOk i j) : jointErr js i j = 0 := by
  obtain ⟨⟨a1, a2⟩, ⟨b1, b2⟩, c, ⟨d1, d2, d3⟩, e⟩ := h
  unfold jointErr
  rw [if_neg (by rw [h1, h2]; simp), if_neg (by omega), if_neg (by omega), if_neg (by rw [c]; simp), if_neg (by omega), if_neg (by rw [e]; simp)]
theorem jointErr_inv {js : List Joint} {i : Nat} {j : Joint} (h : jointErr js i j = 0) : nameOk j.name = true ∧ find js j.name 0 = i ∧ bodyOk i j := by
  unfold jointErr at h
  split at h
  · contradiction
  rename_i h1
  split at h
  · contradiction
  split at h
  · contradiction
  split at h
  · contradiction
  split at h
  · contradiction
  split at h
  · contradiction
  rename_i h4 h5 h6
  refine ⟨?_, ?_, ⟨by omega, by omega⟩, ⟨by omega, by omega⟩, by simpa using h4, ⟨by omega, by omega, by omega⟩, ?_⟩
  · cases h7 : nameOk j.name
    · exact absurd (.inl h7) h1
    · rfl
  · exact Decidable.byContradiction fun h7 => h1 (.inr h7)
  · exact (Bool.eq_false_or_eq_true _).resolve_right h6
end Go.Proofs.YtafglmjadbplcaaDoor

/- What valid robots and scenes are; rows. No program in sight. -/
namespace Go.Proofs.YtafglmjadbplcaaDoor
open Eng
set_option maxRecDepth 10000

theorem jat {js : List Joint} : ∀ {l : List Joint} {i k : Nat} {j : Joint}, jointsErr js i l = 0 → l[k]? = some j → jointErr js (i + k) j = 0
  | [], _, _, _, _, h => by simp at h
  | x :: l, i, k, j, h, hj => by
    rw [jointsErr] at h
    split at h
    · rename_i h0
      cases k with
      | zero => simp at hj; subst hj; exact h0
      | succ k =>
        have := jat (k := k) h (by simpa using hj)
        rw [← this]; congr 1; omega
    · contradiction
theorem robot_facts {r : Robot} (h : checkRobot r = 0) : r.joints.length ≤ 10 ∧ (∀ (k : Nat) (j : Joint), r.joints[k]? = some j → nameOk j.name = true ∧ bodyOk k j) ∧ r.masses.length ≤ 32 ∧ ∀ m ∈ r.masses, massOk r.joints.length m = true := by
  unfold checkRobot at h
  split at h
  · contradiction
  split at h
  · contradiction
  split at h
  · contradiction
  rename_i h1 h2 h3
  simp only [ne_eq, Decidable.not_not] at h2
  have h4 : r.masses.length ≤ 32 ∧ r.masses.all (massOk r.joints.length) = true := ⟨by omega, by
    cases hm : r.masses.all (massOk r.joints.length) with
    | true => rfl
    | false => exact absurd (.inr hm) h3⟩
  refine ⟨by omega, fun k j hj => ?_, h4.1, fun m hm => List.all_eq_true.1 h4.2 m hm⟩
  have := jat h2 hj
  rw [Nat.zero_add] at this
  obtain ⟨a, _, b⟩ := jointErr_inv this
  exact ⟨a, b⟩
theorem flat_take {α β : Type} (f : α → List β) {l : List α} {k : Nat} {x : α} (h : l[k]? = some x) : (l.take (k + 1)).flatMap f = (l.take k).flatMap f ++ f x := by
  rw [List.take_add_one, h, List.flatMap_append]; simp
theorem map_take1 {α β : Type} (f : α → β) {l : List α} {k : Nat} {x : α} (h : l[k]? = some x) : (l.take (k + 1)).map f = (l.take k).map f ++ [f x] := by
  rw [List.take_add_one, h, List.map_append]; rfl
theorem from1_bd {x m : Int} (h : from1 x m = true) : 1 ≤ x ∧ x ≤ m := by simpa [from1] using h
theorem rows_eq {t sz : Nat} {a b : List (List DV)} (h : a = b) : Box.rows t sz a = Box.rows t sz b := by rw [h]
theorem scene_facts {s : Scene} (h : checkScene s = 0) : checkRobot s.robot = 0 ∧ s.shapes.length ≤ 24 ∧ (∀ x ∈ s.shapes, linkOk s.robot.joints.length x.link = true ∧ 1 ≤ x.points.length ∧ x.points.length ≤ 8 ∧ (1 ≤ x.radius ∧ x.radius ≤ 1048576) ∧ ∀ p ∈ x.points, inV p 4194304 = true) ∧ s.skips.length ≤ 64 ∧ ∀ k ∈ s.skips, linkOk s.robot.joints.length k.a = true ∧ linkOk s.robot.joints.length k.b = true := by
  unfold checkScene at h
  split at h
  · contradiction
  split at h
  · contradiction
  split at h
  · contradiction
  split at h
  · contradiction
  split at h
  · contradiction
  rename_i h1 h2 h3 h4 h5
  simp only [ne_eq, Decidable.not_not] at h1 h3
  refine ⟨h1, by omega, fun x hx => ?_, by omega, fun k hk => ?_⟩
  · have : ∀ (l : List Shape), shapesErr s.robot.joints.length l = 0 → ∀ x ∈ l, shapeErr s.robot.joints.length x = 0 := by
      intro l
      induction l with
      | nil => intro _ x hx; cases hx
      | cons y l ih =>
        intro he x hx
        rw [shapesErr] at he
        split at he
        · rename_i h0
          rcases List.mem_cons.1 hx with rfl | hx
          · exact h0
          · exact ih he x hx
        · contradiction
    have hx := this s.shapes h3 x hx
    unfold shapeErr at hx
    split at hx
    · contradiction
    split at hx
    · contradiction
    rename_i q1 q2
    refine ⟨?_, by omega, by omega, by omega, fun p hp => ?_⟩
    · cases hl : linkOk s.robot.joints.length x.link with
      | true => rfl
      | false => exact absurd (.inl hl) q1
    · cases hq : x.points.all (inV · 4194304) with
      | true => exact List.all_eq_true.1 hq p hp
      | false => exact absurd hq q2
  · cases hq : s.skips.all fun k => linkOk s.robot.joints.length k.a && linkOk s.robot.joints.length k.b with
    | true => simpa using List.all_eq_true.1 hq k hk
    | false => exact absurd hq h5
theorem link_bd {n : Nat} {k : Int} (h : linkOk n k = true) : -1 ≤ k ∧ k < n := by simpa [linkOk] using h
end Go.Proofs.YtafglmjadbplcaaDoor

/- Robots: the parts of their check. -/
namespace Go.Proofs.YtafglmjadbplcaaDoor
open Eng
set_option maxRecDepth 10000
attribute [local irreducible] FnOk loopW idxF retX arrF

theorem robot_Find (r : Robot) (nm : ByteArray) (hl : r.joints.length ≤ 4611686018427387904) : FnOk Tryd.prog F.robot_Find [Ro r, Tx nm] [] 0 (I (find r.joints nm 0)) [] 0 := by
  refine fnOk tab mix G.robot_Find rfl rfl (by kernel_rfl) rfl rfl ?_
  (conv => whnf)
  refine loop_intro (fun k : Nat => ⟨[(1, Tx nm), (2, .one (.vptr 0 0)), (8, I r.joints.length), (9, I k)], [(0, bRo r)], 1⟩) (fun k => k ≤ r.joints.length ∧ find (r.joints.drop k) nm k = find r.joints nm 0) (fun k => r.joints.length - k) [] 0 [] ⟨Nat.zero_le _, rfl⟩ ⟨⟨rfl, rfl, eqI (by simp), rfl, trivial⟩, ⟨rfl, trivial⟩⟩ ?_
  rintro k ⟨hk, hf⟩
  (conv => whnf)
  refine ask_m (fun h => ?_) (fun h => ?_)
  · have hlt : k < r.joints.length := by simpa using h
    obtain ⟨j, hj⟩ : ∃ j, r.joints[k]? = some j := ⟨_, List.getElem?_eq_getElem hlt⟩
    have hkk : IntKind.i64.wrap ((k : Int) + 1) = ((k + 1 : Nat) : Int) := by rw [w64] <;> omega
    rw [drop_cons hj, find] at hf
    (conv => whnf)
    refine idx_and (by omega) (by simpa using hj) ?_
    (conv => whnf)
    refine ask_m (fun h => ?_) (fun h => ?_)
    · have h : j.name = nm := of_decide_eq_true h
      rw [if_pos h] at hf
      (conv => whnf)
      refine ret0 ?_
      exact ret_i hf rfl
    · have h : ¬ j.name = nm := of_decide_eq_false h
      rw [if_neg h] at hf
      (conv => whnf)
      exact ⟨k + 1, [], ⟨hlt, hf⟩, by omega, ⟨⟨rfl, rfl, rfl, eqI hkk, trivial⟩, ⟨rfl, trivial⟩⟩⟩
  · have hk : k = r.joints.length := by simp at h; omega
    subst hk
    rw [List.drop_length, find] at hf
    (conv => whnf)
    refine ret0 ?_
    exact ret_i hf rfl
theorem robot_from1 (x m : Int) : FnOk Tryd.prog F.robot_from1 [I x, I m] [] 0 (Bo (from1 x m)) [] 0 := by
  refine fnOk tab mix G.robot_from1 rfl rfl (by kernel_rfl) rfl rfl ?_
  repeat' ((conv => whnf); first | refine ask_m (fun h => ?_) (fun h => ?_) | refine ret0 ?_)
  all_goals exact ret_b (by first | (simp_all [from1]; done) | (simp_all [from1]; omega)) rfl
theorem robot_limit (k : Int) : FnOk Tryd.prog F.robot_limit [I k] [] 0 (I (reach k)) [] 0 := by
  refine fnOk tab mix G.robot_limit rfl rfl (by kernel_rfl) rfl rfl ?_
  repeat' ((conv => whnf); first | refine ask_m (fun h => ?_) (fun h => ?_) | refine ret0 ?_)
  all_goals exact ret_i (by simp_all [reach]) rfl
def inC (x : Int) : Bool := decide (-4194304 ≤ x) && decide (x ≤ 4194304)
def vAt (v : Vec) : Nat → Int
  | 0 => v.x
  | 1 => v.y
  | _ => v.z
theorem inV_at {v : Vec} {k : Nat} (hk : k < 3) (h : inC (vAt v k) = false) : inV v 4194304 = false := by
  obtain rfl | rfl | rfl : k = 0 ∨ k = 1 ∨ k = 2 := by omega
  all_goals (simp only [vAt, inC] at h; unfold inV; rw [h]; simp)
theorem inV_all {v : Vec} (h : ∀ k, k < 3 → inC (vAt v k) = true) : inV v 4194304 = true := by
  have h0 := h 0 (by omega)
  have h1 := h 1 (by omega)
  have h2 := h 2 (by omega)
  simp only [vAt, inC] at h0 h1 h2
  unfold inV; rw [h0, h1, h2]; rfl
theorem arr_vec {te : TI} {v : Vec} {k : Nat} {K : SV → Prop} (ha : te.kind.agg = false) (hs : te.size = 1) (hk : k < 3) (h : K (I (vAt v k))) : arrF te [.dv (.int .i64 v.x), .dv (.int .i64 v.y), .dv (.int .i64 v.z)] k K := by
  obtain rfl | rfl | rfl : k = 0 ∨ k = 1 ∨ k = 2 := by omega
  · exact arr_at ha hs (c := .dv (.int .i64 v.x)) rfl h
  · exact arr_at ha hs (c := .dv (.int .i64 v.y)) rfl h
  · exact arr_at ha hs (c := .dv (.int .i64 v.z)) rfl h
theorem robot_beyond (v : Vec) : FnOk Tryd.prog F.robot_beyond [Ve v] [] 0 (Bo (!inV v 4194304)) [] 0 := by
  refine fnOk tab mix G.robot_beyond rfl rfl (by kernel_rfl) rfl rfl ?_
  (conv => whnf)
  refine loop_intro (fun k : Nat => ⟨[(5, Ve v), (6, I k)], [], 0⟩) (fun k => k ≤ 3 ∧ ∀ i, i < k → inC (vAt v i) = true) (fun k => 3 - k) [] 0 [] ⟨Nat.zero_le _, fun i hi => by omega⟩ ⟨⟨rfl, rfl, trivial⟩, trivial⟩ ?_
  rintro k ⟨hk, hall⟩
  (conv => whnf)
  refine ask_m (fun h => ?_) (fun h => ?_)
  · have hlt : k < 3 := by have := of_decide_eq_true h; omega
    have hkk : IntKind.i64.wrap ((k : Int) + 1) = ((k + 1 : Nat) : Int) := by rw [w64] <;> omega
    (conv => whnf)
    refine ⟨⟨by omega, by omega⟩, ?_⟩
    (conv => whnf)
    rw [Int.toNat_natCast]
    refine arr_vec rfl rfl hlt ?_
    have bad : inC (vAt v k) = false → (!inV v 4194304) = true := fun h => by rw [inV_at hlt h]; rfl
    generalize hx : vAt v k = x at *
    (conv => whnf)
    refine ask_m (fun h => ?_) (fun h => ?_)
    · have h := of_decide_eq_true h
      (conv => whnf)
      refine ret0 ?_
      exact ret_b (bad (by simp only [inC, Bool.and_eq_false_iff, decide_eq_false_iff_not]; omega)).symm rfl
    · have h := of_decide_eq_false h
      (conv => whnf)
      refine ask_m (fun h => ?_) (fun h => ?_)
      · have h := of_decide_eq_true h
        (conv => whnf)
        refine ret0 ?_
        exact ret_b (bad (by simp only [inC, Bool.and_eq_false_iff, decide_eq_false_iff_not]; omega)).symm rfl
      · have h2 := of_decide_eq_false h
        (conv => whnf)
        refine ⟨k + 1, [], ⟨hlt, fun i hi => ?_⟩, by omega, ⟨⟨rfl, eqI hkk, trivial⟩, trivial⟩⟩
        by_cases e : i = k
        · subst e; rw [hx]; simp only [inC, Bool.and_eq_true, decide_eq_true_eq]; omega
        · exact hall i (by omega)
  · have hk : k = 3 := by have := of_decide_eq_false h; omega
    subst hk
    (conv => whnf)
    refine ret0 ?_
    exact ret_b (by rw [inV_all hall]; rfl) rfl
end Go.Proofs.YtafglmjadbplcaaDoor

/- Robots: their check. -/
namespace Go.Proofs.YtafglmjadbplcaaDoor
open Eng
set_option maxRecDepth 10000
attribute [local irreducible] FnOk loopW idxF retX arrF

theorem robot_checkJoint (r : Robot) (i : Nat) (j : Joint) (hj : r.joints[i]? = some j) (hl : r.joints.length ≤ 4611686018427387904) : FnOk Tryd.prog F.robot_checkJoint [Ro r, I i] [] 0 (I (jointErr r.joints i j)) [] 0 := by
  refine fnOk tab mix G.robot_checkJoint rfl rfl (by kernel_rfl) rfl rfl ?_
  have hw : IntKind.i64.wrap (0 - reach j.kind) = - reach j.kind := by
    rcases reach_cases j.kind with h | h | h <;> rw [h] <;> rfl
  have e1 : nameOk j.name = false ∨ find r.joints j.name 0 ≠ i → jointErr r.joints i j = 802 := fun h => by unfold jointErr; rw [if_pos h]
  (conv => whnf)
  refine idx_and (by omega) (by simpa using hj) ?_
  (conv => whnf)
  refine call_i (token_Name j.name) ?_
  (conv => whnf)
  refine ask_m (fun h => ?_) (fun h => ?_)
  · (conv => whnf)
    refine ret0 ?_
    exact ret_i (e1 (.inl (by simpa using h))).symm rfl
  have n1 : nameOk j.name = true := by simpa using h
  (conv => whnf)
  refine call_i (robot_Find r j.name hl) ?_
  (conv => whnf)
  refine ask_m (fun h => ?_) (fun h => ?_)
  · (conv => whnf)
    refine ret0 ?_
    exact ret_i (e1 (.inr (by simpa using h))).symm rfl
  have n2 : find r.joints j.name 0 = i := by simpa using h
  have e2 : jointErr r.joints i j = if j.kind < 0 ∨ 6 < j.kind then 803
      else if j.parent < -1 ∨ (i : Int) ≤ j.parent then 804
      else if inV j.off 4194304 = false then 805
      else if j.hi < j.lo ∨ j.lo < - reach j.kind ∨ reach j.kind < j.hi then 806
      else if (from1 j.weight 1024 && from1 j.speed 1048576 && from1 j.accel 1048576 && from1 j.torque 1099511627776) = false then 807
      else 0 := by unfold jointErr; rw [if_neg (by simp [n1, n2])]
  rw [e2]
  (conv => whnf)
  refine ask_m (fun h => ?_) (fun h => ?_)
  · have h := of_decide_eq_true h
    (conv => whnf)
    refine ret0 ?_
    exact ret_i (by rw [if_pos (.inl h)]) rfl
  have k1 := of_decide_eq_false h
  (conv => whnf)
  refine ask_m (fun h => ?_) (fun h => ?_)
  · have h := of_decide_eq_true h
    (conv => whnf)
    refine ret0 ?_
    exact ret_i (by rw [if_pos (.inr h)]) rfl
  have k2 := of_decide_eq_false h
  rw [if_neg (by omega)]
  (conv => whnf)
  refine ask_m (fun h => ?_) (fun h => ?_)
  · have h := of_decide_eq_true h
    (conv => whnf)
    refine ret0 ?_
    exact ret_i (by rw [if_pos (.inl h)]) rfl
  have p1 := of_decide_eq_false h
  (conv => whnf)
  refine ask_m (fun h => ?_) (fun h => ?_)
  · have h := of_decide_eq_true h
    (conv => whnf)
    refine ret0 ?_
    exact ret_i (by rw [if_pos (.inr h)]) rfl
  have p2 := of_decide_eq_false h
  rw [if_neg (by omega)]
  (conv => whnf)
  refine call_i (robot_beyond j.off) ?_
  (conv => whnf)
  refine ask_m (fun h => ?_) (fun h => ?_)
  · (conv => whnf)
    refine ret0 ?_
    exact ret_i (by rw [if_pos (by simpa using h)]) rfl
  rw [if_neg (by simpa using h)]
  (conv => whnf)
  refine call_i (robot_limit j.kind) ?_
  (conv => whnf)
  refine ask_m (fun h => ?_) (fun h => ?_)
  · have h := of_decide_eq_true h
    (conv => whnf)
    refine ret0 ?_
    exact ret_i (by rw [if_pos (.inl h)]) rfl
  have l1 := of_decide_eq_false h
  (conv => whnf)
  rw [hw]
  refine ask_m (fun h => ?_) (fun h => ?_)
  · have h := of_decide_eq_true h
    (conv => whnf)
    refine ret0 ?_
    exact ret_i (by rw [if_pos (.inr (.inl h))]) rfl
  have l2 := of_decide_eq_false h
  (conv => whnf)
  refine ask_m (fun h => ?_) (fun h => ?_)
  · have h := of_decide_eq_true h
    (conv => whnf)
    refine ret0 ?_
    exact ret_i (by rw [if_pos (.inr (.inr h))]) rfl
  have l3 := of_decide_eq_false h
  rw [if_neg (by rintro (h | h | h) <;> contradiction)]
  (conv => whnf)
  refine call_i (robot_from1 j.weight 1024) ?_
  (conv => whnf)
  refine ask_m (fun h => ?_) (fun h => ?_)
  · (conv => whnf)
    refine ret0 ?_
    exact ret_i (by rw [if_pos (by simp at h; simp [h])]) rfl
  have f1 : from1 j.weight 1024 = true := by simpa using h
  (conv => whnf)
  refine call_i (robot_from1 j.speed 1048576) ?_
  (conv => whnf)
  refine ask_m (fun h => ?_) (fun h => ?_)
  · (conv => whnf)
    refine ret0 ?_
    exact ret_i (by rw [if_pos (by simp at h; simp [h])]) rfl
  have f2 : from1 j.speed 1048576 = true := by simpa using h
  (conv => whnf)
  refine call_i (robot_from1 j.accel 1048576) ?_
  (conv => whnf)
  refine ask_m (fun h => ?_) (fun h => ?_)
  · (conv => whnf)
    refine ret0 ?_
    exact ret_i (by rw [if_pos (by simp at h; simp [h])]) rfl
  have f3 : from1 j.accel 1048576 = true := by simpa using h
  (conv => whnf)
  refine call_i (robot_from1 j.torque 1099511627776) ?_
  (conv => whnf)
  refine ask_m (fun h => ?_) (fun h => ?_)
  · (conv => whnf)
    refine ret0 ?_
    exact ret_i (by rw [if_pos (by simp at h; simp [h])]) rfl
  have f4 : from1 j.torque 1099511627776 = true := by simpa using h
  (conv => whnf)
  refine ret0 ?_
  exact ret_i (by rw [if_neg (by simp [f1, f2, f3, f4])]) rfl
theorem robot_validMass (r : Robot) (m : Mass) : FnOk Tryd.prog F.robot_validMass [Ro r, Ma m] [] 0 (Bo (massOk r.joints.length m)) [] 0 := by
  refine fnOk tab mix G.robot_validMass rfl rfl (by kernel_rfl) rfl rfl ?_
  repeat' ((conv => whnf); first | refine ask_m (fun h => ?_) (fun h => ?_) | refine ret0 ?_ | refine call_i (robot_from1 m.mass 65536) ?_ | refine call_i (robot_beyond m.point) ?_)
  all_goals exact ret_b (by first | (simp_all [massOk]; done) | (simp_all [massOk]; omega)) rfl
theorem robot_Check_1 (r : Robot) (m : Mass) : FnOk Tryd.prog F.robot_Check_1 [Ma m, .one (.vptr 0 0)] [(0, bRo r)] 1 (Bo (!massOk r.joints.length m)) [(0, bRo r)] 1 := by
  refine fnOk tab mix G.robot_Check_1 rfl rfl (by kernel_rfl) rfl rfl ?_
  (conv => whnf)
  refine call_i (robot_validMass r m) ?_
  (conv => whnf)
  refine ret0 ?_
  exact ⟨[], ⟨rfl, trivial⟩, ⟨rfl, trivial⟩⟩
/-- the first mass that is not valid -/
def badMass (n : Nat) : List Mass → Nat → Int
  | [], _ => -1
  | m :: ms, k => if massOk n m then badMass n ms (k + 1) else k
theorem badMass_all (n : Nat) : ∀ (ms : List Mass) (k : Nat), decide (0 ≤ badMass n ms k) = !ms.all (massOk n)
  | [], k => by simp [badMass]
  | m :: ms, k => by
    unfold badMass
    split
    · rename_i h; rw [badMass_all n ms (k + 1)]; simp [h]
    · rename_i h; simp [h]
abbrev Fn1 : SV := .one (.fn F.robot_Check_1 [(0, 0)])
theorem masses_IndexFunc (r : Robot) (ms : List Mass) (hl : ms.length ≤ 4611686018427387904) : FnOk Tryd.prog F.slices_IndexFunc_sapi_Mass_api_Mass [.one (.dv (dMs ms)), Fn1] [(0, bRo r)] 1 (I (badMass r.joints.length ms 0)) [(0, bRo r)] 1 := by
  refine fnOk tab mix G.slices_IndexFunc_sapi_Mass_api_Mass rfl rfl (by kernel_rfl) rfl rfl ?_
  (conv => whnf)
  refine loop_intro (fun k : Nat => ⟨[(0, .one (.dv (dMs ms))), (1, Fn1), (7, I ms.length), (8, I k)], [(0, bRo r)], 1⟩) (fun k => k ≤ ms.length ∧ badMass r.joints.length (ms.drop k) k = badMass r.joints.length ms 0) (fun k => ms.length - k) [] 0 [] ⟨Nat.zero_le _, rfl⟩ ⟨⟨rfl, rfl, eqI (by simp), rfl, trivial⟩, ⟨rfl, trivial⟩⟩ ?_
  rintro k ⟨hk, hf⟩
  (conv => whnf)
  refine ask_m (fun h => ?_) (fun h => ?_)
  · have hlt : k < ms.length := by simpa using h
    obtain ⟨m, hm⟩ : ∃ j, ms[k]? = some j := ⟨_, List.getElem?_eq_getElem hlt⟩
    have hkk : IntKind.i64.wrap ((k : Int) + 1) = ((k + 1 : Nat) : Int) := by rw [w64] <;> omega
    rw [drop_cons hm, badMass] at hf
    (conv => whnf)
    refine idx_and (by omega) (by simpa using hm) ?_
    (conv => whnf)
    refine call_i (robot_Check_1 r m) ?_
    (conv => whnf)
    refine ask_m (fun h => ?_) (fun h => ?_)
    · have h : massOk r.joints.length m = false := by simpa using h
      rw [if_neg (by rw [h]; simp)] at hf
      rw [← hf]
      (conv => whnf)
      refine ret0 ?_
      exact ⟨[], ⟨rfl, trivial⟩, ⟨rfl, trivial⟩⟩
    · have h : massOk r.joints.length m = true := by simpa using h
      rw [if_pos h] at hf
      (conv => whnf)
      exact ⟨k + 1, [], ⟨hlt, hf⟩, by omega, ⟨⟨rfl, rfl, rfl, eqI hkk, trivial⟩, ⟨rfl, trivial⟩⟩⟩
  · have hk : k = ms.length := by simp at h; omega
    subst hk
    rw [List.drop_length, badMass] at hf
    rw [← hf]
    (conv => whnf)
    refine ret0 ?_
    exact ⟨[], ⟨rfl, trivial⟩, ⟨rfl, trivial⟩⟩
theorem masses_ContainsFunc (r : Robot) (ms : List Mass) (hl : ms.length ≤ 4611686018427387904) : FnOk Tryd.prog F.slices_ContainsFunc_sapi_Mass_api_Mass [.one (.dv (dMs ms)), Fn1] [(0, bRo r)] 1 (Bo (!ms.all (massOk r.joints.length))) [(0, bRo r)] 1 := by
  refine fnOk tab mix G.slices_ContainsFunc_sapi_Mass_api_Mass rfl rfl (by kernel_rfl) rfl rfl ?_
  rw [← badMass_all r.joints.length ms 0]
  (conv => whnf)
  refine call_i (masses_IndexFunc r ms hl) ?_
  (conv => whnf)
  refine ret0 ?_
  exact ⟨[], ⟨rfl, trivial⟩, ⟨rfl, trivial⟩⟩
theorem robot_Check (r : Robot) (hj : r.joints.length ≤ 4611686018427387904) (hm : r.masses.length ≤ 4611686018427387904) : FnOk Tryd.prog F.robot_Check [Ro r] [] 0 (I (checkRobot r)) [] 0 := by
  refine fnOk tab mix G.robot_Check rfl rfl (by kernel_rfl) rfl rfl ?_
  (conv => whnf)
  refine ask_m (fun h => ?_) (fun h => ?_)
  · have h : r.joints.length = 0 := by simpa using h
    (conv => whnf)
    refine ret0 ?_
    exact ret_i (by unfold checkRobot; rw [if_pos (.inl h)]) rfl
  have h1 : ¬ r.joints.length = 0 := by simpa using h
  (conv => whnf)
  refine ask_m (fun h => ?_) (fun h => ?_)
  · have h : 10 < r.joints.length := by have := of_decide_eq_true h; simp only [List.length_map] at this; omega
    (conv => whnf)
    refine ret0 ?_
    exact ret_i (by unfold checkRobot; rw [if_pos (.inr h)]) rfl
  have h2 : ¬ 10 < r.joints.length := by have := of_decide_eq_false h; simp only [List.length_map] at this; omega
  have e : checkRobot r = if jointsErr r.joints 0 r.joints ≠ 0 then jointsErr r.joints 0 r.joints
    else if 32 < r.masses.length ∨ r.masses.all (massOk r.joints.length) = false then 808 else 0 := by unfold checkRobot; rw [if_neg (by omega)]
  rw [e]
  (conv => whnf)
  refine loop_intro (fun k : Nat => ⟨[(1, .one (.vptr 0 0)), (17, I r.joints.length), (18, I k)], [(0, bRo r)], 1⟩) (fun k => k ≤ r.joints.length ∧ jointsErr r.joints k (r.joints.drop k) = jointsErr r.joints 0 r.joints) (fun k => r.joints.length - k) [] 0 [] ⟨Nat.zero_le _, rfl⟩ ⟨⟨rfl, eqI (by simp), rfl, trivial⟩, ⟨rfl, trivial⟩⟩ ?_
  rintro k ⟨hk, hf⟩
  (conv => whnf)
  refine ask_m (fun h => ?_) (fun h => ?_)
  · have hlt : k < r.joints.length := by simpa using h
    obtain ⟨j, hjk⟩ : ∃ j, r.joints[k]? = some j := ⟨_, List.getElem?_eq_getElem hlt⟩
    have hkk : IntKind.i64.wrap ((k : Int) + 1) = ((k + 1 : Nat) : Int) := by rw [w64] <;> omega
    rw [drop_cons hjk, jointsErr] at hf
    (conv => whnf)
    refine call_i (robot_checkJoint r k j hjk hj) ?_
    (conv => whnf)
    refine ask_m (fun h => ?_) (fun h => ?_)
    · have h : ¬ jointErr r.joints k j = 0 := by simpa using h
      rw [if_neg h] at hf
      (conv => whnf)
      refine ret0 ?_
      exact ret_i (by rw [← hf, if_pos h]) rfl
    · have h : jointErr r.joints k j = 0 := by simpa using h
      rw [if_pos h] at hf
      (conv => whnf)
      exact ⟨k + 1, [], ⟨hlt, hf⟩, by omega, ⟨⟨rfl, rfl, eqI hkk, trivial⟩, ⟨rfl, trivial⟩⟩⟩
  · have hk : k = r.joints.length := by simp at h; omega
    subst hk
    rw [List.drop_length, jointsErr] at hf
    rw [← hf, if_neg (by simp)]
    (conv => whnf)
    refine ask_m (fun h => ?_) (fun h => ?_)
    · have h : 32 < r.masses.length := by have := of_decide_eq_true h; simp only [List.length_map] at this; omega
      (conv => whnf)
      refine ret0 ?_
      exact ret_i (by rw [if_pos (.inl h)]) rfl
    · have h : ¬ 32 < r.masses.length := by have := of_decide_eq_false h; simp only [List.length_map] at this; omega
      (conv => whnf)
      refine call_i (masses_ContainsFunc r r.masses hm) ?_
      (conv => whnf)
      refine ask_m (fun h => ?_) (fun h => ?_)
      · (conv => whnf)
        refine ret0 ?_
        exact ret_i (by rw [if_pos (.inr (by simpa using h))]) rfl
      · (conv => whnf)
        refine ret0 ?_
        rename_i h32 _
        exact ret_i (by rw [if_neg]; rintro (h' | h'); · contradiction
                        · rw [h'] at h; cases h) rfl
end Go.Proofs.YtafglmjadbplcaaDoor

/- law7: the table of words, Arguments. -/
namespace Go.Proofs.YtafglmjadbplcaaDoor
open Eng
set_option maxRecDepth 10000
attribute [local irreducible] FnOk loopW idxF retX arrF findF

structure Counts where
  least : Int
  most : Int
  step : Int
def encC (c : Counts) : List DV := [.int .i64 c.least, .int .i64 c.most, .int .i64 c.step]
abbrev Cn (c : Counts) : SV := .agg [.dv (.int .i64 c.least), .dv (.int .i64 c.most), .dv (.int .i64 c.step)]
def entC (s : ByteArray) (c : Counts) : Ent := ((false, [.str s]), (true, encC c))
def tabE : List Ent := [entC wJoint ⟨9, 9, 1⟩, entC wLimit ⟨4, 4, 1⟩, entC wMass ⟨5, 5, 1⟩, entC wShape ⟨5, 26, 3⟩, entC wSkip ⟨2, 2, 1⟩]
def countsOf (w : ByteArray) : Option Counts := if w = wJoint then some ⟨9, 9, 1⟩ else if w = wLimit then some ⟨4, 4, 1⟩ else if w = wMass then some ⟨5, 5, 1⟩ else if w = wShape then some ⟨5, 26, 3⟩ else if w = wSkip then some ⟨2, 2, 1⟩ else none
theorem mapT : Tryd.prog.underlying Y.map_string_syntax_counts = some (.map Y.string Y.syntax_counts) ∧ Tryd.prog.underlying Y.string = some .string := ⟨by kernel_rfl, by kernel_rfl⟩
theorem zC : zAgg Tryd.prog Y.syntax_counts = true := by kernel_rfl
theorem keysT : keysD .string tabE := ⟨trivial, trivial, trivial, trivial, trivial, trivial⟩
theorem syntax_table : FnOk Tryd.prog F.syntax_table [] [] 0 (.one (.row 0)) [(0, .mp tabE)] 1 := by
  refine fnOk tab mix G.syntax_table rfl rfl (by kernel_rfl) rfl rfl ?_
  (conv => whnf)
  refine ⟨Y.string, Y.syntax_counts, .string, ⟨mapT.1, mapT.2, trivial, trivial⟩, ?_⟩
  (conv => whnf)
  refine find_is (r := none) rfl ?_
  (conv => whnf)
  refine ⟨Y.string, Y.syntax_counts, .string, ⟨mapT.1, mapT.2, trivial, ⟨trivial, trivial⟩⟩, ?_⟩
  (conv => whnf)
  refine find_is (r := none) (by kernel_rfl) ?_
  (conv => whnf)
  refine ⟨Y.string, Y.syntax_counts, .string, ⟨mapT.1, mapT.2, trivial, ⟨trivial, trivial, trivial⟩⟩, ?_⟩
  (conv => whnf)
  refine find_is (r := none) (by kernel_rfl) ?_
  (conv => whnf)
  refine ⟨Y.string, Y.syntax_counts, .string, ⟨mapT.1, mapT.2, trivial, ⟨trivial, trivial, trivial, trivial⟩⟩, ?_⟩
  (conv => whnf)
  refine find_is (r := none) (by kernel_rfl) ?_
  (conv => whnf)
  refine ⟨Y.string, Y.syntax_counts, .string, ⟨mapT.1, mapT.2, trivial, ⟨trivial, trivial, trivial, trivial, trivial⟩⟩, ?_⟩
  (conv => whnf)
  refine find_is (r := none) (by kernel_rfl) ?_
  (conv => whnf)
  refine ret0 ?_
  exact ⟨[(0, 0)], ⟨rfl, trivial⟩, ⟨rfl, trivial⟩⟩
def posOf (w : ByteArray) : Nat := if w = wJoint then 0 else if w = wLimit then 1 else if w = wMass then 2 else if w = wShape then 3 else 4
theorem find_tab (w : ByteArray) : findD (.str w) tabE = (countsOf w).map fun c => (posOf w, (true, encC c)) := by
  unfold tabE countsOf posOf entC
  simp only [findD, keyEq]
  by_cases h1 : w = wJoint
  · simp [h1]
  by_cases h2 : w = wLimit
  · simp [h1, h2]; subst h2; simp_all
  by_cases h3 : w = wMass
  · simp [h1, h2, h3]; subst h3; simp_all
  by_cases h4 : w = wShape
  · simp [h1, h2, h3, h4]; subst h4; simp_all
  by_cases h5 : w = wSkip
  · simp [h1, h2, h3, h4, h5]; subst h5; simp_all
  simp [h1, h2, h3, h4, h5]
def allowB (c : Counts) (n : Int) : Bool := decide (c.least ≤ n) && decide (n ≤ c.most) && decide ((n - c.least) % c.step = 0)
theorem syntax_allow (c : Counts) (n : Int) (hc : 0 ≤ c.least ∧ c.most ≤ 100 ∧ 0 < c.step) : FnOk Tryd.prog F.syntax_counts_allow [Cn c, I n] [] 0 (Bo (allowB c n)) [] 0 := by
  refine fnOk tab mix G.syntax_counts_allow rfl rfl (by kernel_rfl) rfl rfl ?_
  (conv => whnf)
  refine ask_m (fun h => ?_) (fun h => ?_)
  · have h1 := of_decide_eq_true h
    (conv => whnf)
    refine ask_m (fun h => ?_) (fun h => ?_)
    · have h2 := of_decide_eq_true h
      have hw : IntKind.i64.wrap (n - c.least) = n - c.least := by rw [w64] <;> omega
      (conv => whnf)
      rw [hw]
      have hm : (n - c.least).tmod c.step = (n - c.least) % c.step := Int.tmod_eq_emod_of_nonneg (by omega)
      refine ⟨(by omega : c.step ≠ 0), ?_⟩
      (conv => whnf)
      rw [hm]
      (conv => whnf)
      refine ret0 ?_
      exact ret_b (by simp [allowB, h1, h2]; rfl) rfl
    · have h2 := of_decide_eq_false h
      (conv => whnf)
      refine ret0 ?_
      exact ret_b (by simp [allowB, h2]) rfl
  · have h1 := of_decide_eq_false h
    (conv => whnf)
    refine ret0 ?_
    exact ret_b (by simp [allowB, h1]) rfl
theorem counts_good {w : ByteArray} {c : Counts} (h : countsOf w = some c) : 0 ≤ c.least ∧ c.most ≤ 100 ∧ 0 < c.step := by
  unfold countsOf at h
  repeat' split at h
  all_goals first | (injection h with h; subst h; decide) | cases h
def argsB (w : ByteArray) (n : Int) : Bool := match countsOf w with
  | some c => allowB c n
  | none => false
theorem syntax_Arguments (w : ByteArray) (n : Int) : FnOk Tryd.prog F.syntax_Arguments [Tx w, I n] [] 0 (Bo (argsB w n)) [] 0 := by
  refine fnOk tab mix G.syntax_Arguments rfl rfl (by kernel_rfl) rfl rfl ?_
  (conv => whnf)
  refine call_i (syntax_table) ?_
  (conv => whnf)
  refine ⟨Y.string, Y.syntax_counts, .string, ⟨mapT.1, mapT.2, trivial, keysT⟩, ?_⟩
  (conv => whnf)
  refine ⟨zC, ?_⟩
  (conv => whnf)
  cases hc : countsOf w with
  | none =>
    refine find_is (r := none) (by rw [find_tab, hc]; rfl) ?_
    (conv => whnf)
    refine ret0 ?_
    exact ret_b (by rw [argsB, hc]) rfl
  | some c =>
    refine find_is (r := some (posOf w, (true, encC c))) (by rw [find_tab, hc]; rfl) ?_
    (conv => whnf)
    refine call_i (syntax_allow c n (counts_good hc)) ?_
    (conv => whnf)
    (conv => whnf)
    refine ret0 ?_
    exact ret_b (by rw [argsB, hc]) rfl
theorem ref_Arguments (w : ByteArray) (n : Int) : FnOk Tryd.prog F.ref6_Arguments [Tx w, I n] [] 0 (Bo (argsB w n)) [] 0 := by
  refine fnOk tab mix G.ref6_Arguments rfl rfl (by kernel_rfl) rfl rfl ?_
  (conv => whnf)
  have e1 : ∀ x, countsOf w = some x → argsB w n = allowB x n := fun x h => by rw [argsB, h]
  refine ask_m (fun h => ?_) (fun h => ?_)
  · have h : w = wJoint := of_decide_eq_true h
    (conv => whnf)
    refine ret0 ?_
    exact ret_b (by rw [e1 ⟨9, 9, 1⟩ (by rw [countsOf, if_pos h]), Bool.eq_iff_iff]; simp [allowB]; omega) rfl
  have n1 : ¬ w = wJoint := of_decide_eq_false h
  (conv => whnf)
  refine ask_m (fun h => ?_) (fun h => ?_)
  · have h : w = wLimit := of_decide_eq_true h
    (conv => whnf)
    refine ret0 ?_
    exact ret_b (by rw [e1 ⟨4, 4, 1⟩ (by rw [countsOf, if_neg n1, if_pos h]), Bool.eq_iff_iff]; simp [allowB]; omega) rfl
  have n2 : ¬ w = wLimit := of_decide_eq_false h
  (conv => whnf)
  refine ask_m (fun h => ?_) (fun h => ?_)
  · have h : w = wMass := of_decide_eq_true h
    (conv => whnf)
    refine ret0 ?_
    exact ret_b (by rw [e1 ⟨5, 5, 1⟩ (by rw [countsOf, if_neg n1, if_neg n2, if_pos h]), Bool.eq_iff_iff]; simp [allowB]; omega) rfl
  have n3 : ¬ w = wMass := of_decide_eq_false h
  (conv => whnf)
  refine ask_m (fun h => ?_) (fun h => ?_)
  · have h : w = wShape := of_decide_eq_true h
    have e := e1 ⟨5, 26, 3⟩ (by rw [countsOf, if_neg n1, if_neg n2, if_neg n3, if_pos h])
    rw [e]
    (conv => whnf)
    refine ask_m (fun h => ?_) (fun h => ?_)
    · have h1 := of_decide_eq_true h
      (conv => whnf)
      refine ask_m (fun h => ?_) (fun h => ?_)
      · have h2 := of_decide_eq_true h
        have hw : IntKind.i64.wrap (n - 2) = n - 2 := by rw [w64] <;> omega
        have hm : (n - 2).tmod 3 = (n - 2) % 3 := Int.tmod_eq_emod_of_nonneg (by omega)
        (conv => whnf)
        rw [hw]
        refine ⟨(by omega : (3 : Int) ≠ 0), ?_⟩
        (conv => whnf)
        rw [hm]
        (conv => whnf)
        refine ret0 ?_
        exact ret_b (by rw [Bool.eq_iff_iff]; simp [allowB, h1, h2]; omega) rfl
      · have h2 := of_decide_eq_false h
        (conv => whnf)
        refine ret0 ?_
        exact ret_b (by simp [allowB, h2]) rfl
    · have h1 := of_decide_eq_false h
      (conv => whnf)
      refine ret0 ?_
      exact ret_b (by simp [allowB]; intro h; exact absurd h h1) rfl
  have n4 : ¬ w = wShape := of_decide_eq_false h
  (conv => whnf)
  refine ask_m (fun h => ?_) (fun h => ?_)
  · have h : w = wSkip := of_decide_eq_true h
    (conv => whnf)
    refine ret0 ?_
    exact ret_b (by rw [e1 ⟨2, 2, 1⟩ (by rw [countsOf, if_neg n1, if_neg n2, if_neg n3, if_neg n4, if_pos h]), Bool.eq_iff_iff]; simp [allowB]; omega) rfl
  have n5 : ¬ w = wSkip := of_decide_eq_false h
  (conv => whnf)
  refine ret0 ?_
  exact ret_b (by rw [argsB, countsOf, if_neg n1, if_neg n2, if_neg n3, if_neg n4, if_neg n5]) rfl
end Go.Proofs.YtafglmjadbplcaaDoor

/- Reading robots: the models; kindOf, numbers. -/
namespace Go.Proofs.YtafglmjadbplcaaDoor
open Eng
set_option maxRecDepth 10000
attribute [local irreducible] FnOk loopW idxF retX arrF findF

def kfind (w : ByteArray) : List ByteArray → Nat → Int
  | [], _ => -1
  | t :: l, k => if t = w then k else kfind w l (k + 1)
def kindI (w : ByteArray) : Int := kfind w kindTab 0
theorem kfind_bd (w : ByteArray) : ∀ (l : List ByteArray) (k : Nat), kfind w l k = -1 ∨ ((k : Int) ≤ kfind w l k ∧ kfind w l k < k + l.length)
  | [], _ => .inl rfl
  | t :: l, k => by
    rw [kfind]
    split
    · right; simp; omega
    · rcases kfind_bd w l (k + 1) with h | h
      · exact .inl h
      · right; simp; omega
theorem kindI_bd (w : ByteArray) : kindI w = -1 ∨ (0 ≤ kindI w ∧ kindI w ≤ 6) := by
  rcases kfind_bd w kindTab 0 with h | ⟨h1, h2⟩
  · exact .inl h
  · have : kindTab.length = 7 := rfl
    exact .inr ⟨h1, by rw [kindI]; omega⟩
def kindR (w : ByteArray) : SV := DgR (if kindI w < 0 then 0 else kindI w) (decide (0 ≤ kindI w))
theorem robot_kindOf (w : ByteArray) : FnOk Tryd.prog F.robot_kindOf [Tx w] [] 0 (DgR (if kindI w < 0 then 0 else kindI w) (decide (0 ≤ kindI w))) [] 0 := by
  refine fnOk tab mix G.robot_kindOf rfl rfl (by kernel_rfl) rfl rfl ?_
  (conv => whnf)
  refine loop_intro (fun k : Nat => ⟨[(0, Tx w), (6, .agg (kindTab.map fun s => .dv (.str s))), (7, I k)], [], 0⟩) (fun k => k ≤ 7 ∧ kfind w (kindTab.drop k) k = kindI w) (fun k => 7 - k) [] 0 [] ⟨Nat.zero_le _, rfl⟩ ⟨⟨rfl, rfl, rfl, trivial⟩, trivial⟩ ?_
  rintro k ⟨hk, hf⟩
  have hkk : IntKind.i64.wrap ((k : Int) + 1) = ((k + 1 : Nat) : Int) := by rw [w64] <;> omega
  (conv => whnf)
  refine ask_m (fun h => ?_) (fun h => ?_)
  · have hlt : k < 7 := by have := of_decide_eq_true h; omega
    obtain ⟨t, ht⟩ : ∃ t, kindTab[k]? = some t := ⟨_, List.getElem?_eq_getElem hlt⟩
    rw [drop_cons ht, kfind] at hf
    (conv => whnf)
    refine ⟨⟨by omega, by show (k : Int) < 7; omega⟩, ?_⟩
    (conv => whnf)
    refine arr_text (tb := kindTab) rfl rfl (by rw [Int.toNat_natCast]; exact ht) ?_
    (conv => whnf)
    refine ask_m (fun he => ?_) (fun he => ?_)
    · have he : t = w := of_decide_eq_true he
      rw [if_pos he] at hf
      rw [← hf]
      (conv => whnf)
      refine ret0 ?_
      exact ⟨[], ⟨by rw [if_neg (by omega), decide_eq_true (by omega)]; rfl, trivial⟩, trivial⟩
    · have he : ¬ t = w := of_decide_eq_false he
      rw [if_neg he] at hf
      (conv => whnf)
      exact ⟨k + 1, [], ⟨hlt, hf⟩, by omega, ⟨⟨rfl, rfl, eqI hkk, trivial⟩, trivial⟩⟩
  · have hk : k = 7 := by have := of_decide_eq_false h; omega
    subst hk
    have hf : (-1 : Int) = kindI w := hf
    rw [← hf]
    (conv => whnf)
    refine ret0 ?_
    exact ⟨[], ⟨rfl, trivial⟩, trivial⟩
theorem ref_kindOf (w : ByteArray) : FnOk Tryd.prog F.ref6_kindOf [Tx w] [] 0 (I (kindI w)) [] 0 := by
  refine fnOk tab mix G.ref6_kindOf rfl rfl (by kernel_rfl) rfl rfl ?_
  (conv => whnf)
  refine loop_intro (fun k : Nat => ⟨[(0, Tx w), (3, I k)], [], 0⟩) (fun k => k ≤ 7 ∧ kfind w (kindTab.drop k) k = kindI w) (fun k => 7 - k) [] 0 [] ⟨Nat.zero_le _, rfl⟩ ⟨⟨rfl, rfl, trivial⟩, trivial⟩ ?_
  rintro k ⟨hk, hf⟩
  have hkk : IntKind.i64.wrap ((k : Int) + 1) = ((k + 1 : Nat) : Int) := by rw [w64] <;> omega
  (conv => whnf)
  refine ask_m (fun h => ?_) (fun h => ?_)
  · have hlt : k < 7 := by have := of_decide_eq_true h; omega
    obtain ⟨t, ht⟩ : ∃ t, kindTab[k]? = some t := ⟨_, List.getElem?_eq_getElem hlt⟩
    have hkn : kindN (k : Int) = t := by
      have := kindN_at (k := (k : Int)) (by omega) (by omega)
      rw [Int.toNat_natCast, ht] at this
      injection this with this
      exact this.symm
    rw [drop_cons ht, kfind] at hf
    (conv => whnf)
    refine call_i (ref_kindName (k : Int) (by omega) (by omega)) ?_
    (conv => whnf)
    rw [hkn]
    refine ask_m (fun he => ?_) (fun he => ?_)
    · have he : t = w := of_decide_eq_true he
      rw [if_pos he] at hf
      (conv => whnf)
      refine ret0 ?_
      exact ret_i hf rfl
    · have he : ¬ t = w := of_decide_eq_false he
      rw [if_neg he] at hf
      (conv => whnf)
      exact ⟨k + 1, [], ⟨hlt, hf⟩, by omega, ⟨⟨rfl, eqI hkk, trivial⟩, trivial⟩⟩
  · have hk : k = 7 := by have := of_decide_eq_false h; omega
    subst hk
    (conv => whnf)
    refine ret0 ?_
    exact ret_i hf rfl
/-- numbers, if all of them are -/
def numsOf (f : ByteArray → Int × Bool) : List ByteArray → Option (List Int)
  | [] => some []
  | w :: ws => match (f w).2, numsOf f ws with
    | true, some l => some ((f w).1 :: l)
    | _, _ => none
theorem numsOf_all {f : ByteArray → Int × Bool} : ∀ {ws : List ByteArray}, (ws.all fun w => (f w).2) = true → numsOf f ws = some (ws.map fun w => (f w).1)
  | [], _ => rfl
  | w :: ws, h => by
    rw [List.all_cons, Bool.and_eq_true] at h
    rw [numsOf, h.1, numsOf_all h.2]; rfl
theorem numsOf_not {f : ByteArray → Int × Bool} : ∀ {ws : List ByteArray} {k : Nat} {w : ByteArray}, ws[k]? = some w → (f w).2 = false → numsOf f ws = none
  | [], k, w, h, _ => by simp at h
  | x :: ws, 0, w, h, hf => by
    simp at h; subst h
    rw [numsOf, hf]
  | x :: ws, k + 1, w, h, hf => by
    rw [numsOf, numsOf_not (ws := ws) (by simpa using h) hf]
    cases (f x).2 <;> rfl
abbrev NsR (r : Option (List Int)) : SV := .tup [(false, [.dv (.lst 1 ((r.getD []).map encI))]), (false, [.dv (.bool r.isSome)])]
theorem robot_numbersNumber (ws : List ByteArray) (hl : ws.length ≤ 1000) (hs : ∀ w ∈ ws, w.size ≤ 4611686018427387904) : FnOk Tryd.prog F.robot_numbers [.one (.dv (.lst 1 (ws.map encA))), .one (.fn F.token_Number [])] [] 0 (NsR (numsOf numOf ws)) [] 0 := by
  refine fnOk tab mix G.robot_numbers rfl rfl (by kernel_rfl) rfl rfl ?_
  (conv => whnf)
  refine ⟨⟨by simp, by simp, by simp; omega, by simp; omega⟩, ?_⟩
  (conv => whnf)
  have hr : ∀ n : Nat, List.replicate n ([.int .i64 0] : List DV) = (List.replicate n (0 : Int)).map encI := fun n => by rw [List.map_replicate]; rfl
  refine loop_intro (fun k : Nat => ⟨[(1, .one (.fn F.token_Number [])), (4, .one (.nil 1)), (6, .one (.row 0)), (14, .one (.dv (.lst 1 (ws.map encA)))), (15, I ws.length), (16, I k)], [(0, .rows Y.int64 1 ((((ws.take k).map fun w => (numOf w).1) ++ List.replicate (ws.length - k) 0).map encI))], 1⟩) (fun k => k ≤ ws.length ∧ ((ws.take k).all fun w => (numOf w).2) = true) (fun k => ws.length - k) [] 0 [] ⟨Nat.zero_le _, rfl⟩ ⟨⟨rfl, rfl, rfl, rfl, eqI (by simp), rfl, trivial⟩, ⟨rows_eq (by simp [encI]), trivial⟩⟩ ?_
  rintro k ⟨hk, hall⟩
  have hkk : IntKind.i64.wrap ((k : Int) + 1) = ((k + 1 : Nat) : Int) := by rw [w64] <;> omega
  (conv => whnf)
  refine ask_m (fun h => ?_) (fun h => ?_)
  · have hlt : k < ws.length := by have := of_decide_eq_true h; omega
    obtain ⟨w, hw⟩ : ∃ w, ws[k]? = some w := ⟨_, List.getElem?_eq_getElem hlt⟩
    (conv => whnf)
    refine idx_and (by omega) (by simpa using hw) ?_
    (conv => whnf)
    refine call_i (token_Number w (hs w (List.mem_of_getElem? hw))) ?_
    (conv => whnf)
    cases hb : (numOf w).2 with
    | false =>
      (conv => whnf)
      rw [numsOf_not hw hb]
      (conv => whnf)
      refine retO [.own 4 Y.int64 1, .frz 1] ?_
      (conv => whnf)
      exact ⟨[], ⟨rfl, trivial⟩, trivial⟩
    | true =>
      have hA : (((ws.take k).map fun w => (numOf w).1).map encI).length = k := by rw [List.length_map, List.length_map, List.length_take]; omega
      have hrep : List.replicate (ws.length - k) (0 : Int) = 0 :: List.replicate (ws.length - (k + 1)) 0 := by
        rw [show ws.length - k = (ws.length - (k + 1)) + 1 by omega]; rfl
      have hn : (((ws.take (k + 1)).map fun w => (numOf w).1) ++ List.replicate (ws.length - (k + 1)) 0).map encI = ((ws.take k).map fun w => (numOf w).1).map encI ++ encI (numOf w).1 :: (List.replicate (ws.length - (k + 1)) 0).map encI := by
        rw [map_take1 _ hw, List.append_assoc, List.map_append]; rfl
      rw [hrep, List.map_append, List.map_cons]
      generalize ((ws.take k).map fun w => (numOf w).1).map encI = A at *
      (conv => whnf)
      refine ⟨⟨by omega, by simp [hA]; omega⟩, ?_⟩
      (conv => whnf)
      refine idx_at (r := encI 0) (by rw [Int.toNat_natCast, List.getElem?_append_right (by omega), hA, Nat.sub_self]; rfl) ?_
      (conv => whnf)
      refine ⟨k + 1, [], ⟨hlt, all_take hall hw hb⟩, by omega, ⟨⟨rfl, rfl, rfl, rfl, rfl, eqI hkk, trivial⟩, ⟨rows_eq ?_, trivial⟩⟩⟩
      rw [hn, Int.toNat_natCast]
      subst hA
      simp [encI]
  · have hk : k = ws.length := by have := of_decide_eq_false h; omega
    subst hk
    rw [List.take_length] at hall
    rw [numsOf_all hall, List.take_length, Nat.sub_self, List.replicate_zero, List.append_nil]
    (conv => whnf)
    refine retO [.frz 0] ?_
    (conv => whnf)
    exact ⟨[], ⟨rfl, trivial⟩, trivial⟩
theorem robot_numbersInteger (ws : List ByteArray) (hl : ws.length ≤ 1000) : FnOk Tryd.prog F.robot_numbers [.one (.dv (.lst 1 (ws.map encA))), .one (.fn F.token_Integer [])] [] 0 (NsR (numsOf intOf ws)) [] 0 := by
  refine fnOk tab mix G.robot_numbers rfl rfl (by kernel_rfl) rfl rfl ?_
  (conv => whnf)
  refine ⟨⟨by simp, by simp, by simp; omega, by simp; omega⟩, ?_⟩
  (conv => whnf)
  have hr : ∀ n : Nat, List.replicate n ([.int .i64 0] : List DV) = (List.replicate n (0 : Int)).map encI := fun n => by rw [List.map_replicate]; rfl
  refine loop_intro (fun k : Nat => ⟨[(1, .one (.fn F.token_Integer [])), (4, .one (.nil 1)), (6, .one (.row 0)), (14, .one (.dv (.lst 1 (ws.map encA)))), (15, I ws.length), (16, I k)], [(0, .rows Y.int64 1 ((((ws.take k).map fun w => (intOf w).1) ++ List.replicate (ws.length - k) 0).map encI))], 1⟩) (fun k => k ≤ ws.length ∧ ((ws.take k).all fun w => (intOf w).2) = true) (fun k => ws.length - k) [] 0 [] ⟨Nat.zero_le _, rfl⟩ ⟨⟨rfl, rfl, rfl, rfl, eqI (by simp), rfl, trivial⟩, ⟨rows_eq (by simp [encI]), trivial⟩⟩ ?_
  rintro k ⟨hk, hall⟩
  have hkk : IntKind.i64.wrap ((k : Int) + 1) = ((k + 1 : Nat) : Int) := by rw [w64] <;> omega
  (conv => whnf)
  refine ask_m (fun h => ?_) (fun h => ?_)
  · have hlt : k < ws.length := by have := of_decide_eq_true h; omega
    obtain ⟨w, hw⟩ : ∃ w, ws[k]? = some w := ⟨_, List.getElem?_eq_getElem hlt⟩
    (conv => whnf)
    refine idx_and (by omega) (by simpa using hw) ?_
    (conv => whnf)
    refine call_i (token_Integer w) ?_
    (conv => whnf)
    cases hb : (intOf w).2 with
    | false =>
      (conv => whnf)
      rw [numsOf_not hw hb]
      (conv => whnf)
      refine retO [.own 4 Y.int64 1, .frz 1] ?_
      (conv => whnf)
      exact ⟨[], ⟨rfl, trivial⟩, trivial⟩
    | true =>
      have hA : (((ws.take k).map fun w => (intOf w).1).map encI).length = k := by rw [List.length_map, List.length_map, List.length_take]; omega
      have hrep : List.replicate (ws.length - k) (0 : Int) = 0 :: List.replicate (ws.length - (k + 1)) 0 := by
        rw [show ws.length - k = (ws.length - (k + 1)) + 1 by omega]; rfl
      have hn : (((ws.take (k + 1)).map fun w => (intOf w).1) ++ List.replicate (ws.length - (k + 1)) 0).map encI = ((ws.take k).map fun w => (intOf w).1).map encI ++ encI (intOf w).1 :: (List.replicate (ws.length - (k + 1)) 0).map encI := by
        rw [map_take1 _ hw, List.append_assoc, List.map_append]; rfl
      rw [hrep, List.map_append, List.map_cons]
      generalize ((ws.take k).map fun w => (intOf w).1).map encI = A at *
      (conv => whnf)
      refine ⟨⟨by omega, by simp [hA]; omega⟩, ?_⟩
      (conv => whnf)
      refine idx_at (r := encI 0) (by rw [Int.toNat_natCast, List.getElem?_append_right (by omega), hA, Nat.sub_self]; rfl) ?_
      (conv => whnf)
      refine ⟨k + 1, [], ⟨hlt, all_take hall hw hb⟩, by omega, ⟨⟨rfl, rfl, rfl, rfl, rfl, eqI hkk, trivial⟩, ⟨rows_eq ?_, trivial⟩⟩⟩
      rw [hn, Int.toNat_natCast]
      subst hA
      simp [encI]
  · have hk : k = ws.length := by have := of_decide_eq_false h; omega
    subst hk
    rw [List.take_length] at hall
    rw [numsOf_all hall, List.take_length, Nat.sub_self, List.replicate_zero, List.append_nil]
    (conv => whnf)
    refine retO [.frz 0] ?_
    (conv => whnf)
    exact ⟨[], ⟨rfl, trivial⟩, trivial⟩
end Go.Proofs.YtafglmjadbplcaaDoor

/- Reading robots: joint, limit, mass, statement. -/
namespace Go.Proofs.YtafglmjadbplcaaDoor
open Eng
set_option maxRecDepth 10000
attribute [local irreducible] FnOk loopW idxF retX arrF findF

abbrev dAs (l : List ByteArray) : DV := .lst 1 (l.map encA)
/-- the map of the names -/
def mapE : List Joint → Nat → List Ent
  | [], _ => []
  | j :: js, k => ((false, [.str j.name]), (false, [.int .i64 k])) :: mapE js (k + 1)
theorem mapE_keys : ∀ (js : List Joint) (k : Nat), keysD .string (mapE js k)
  | [], _ => trivial
  | j :: js, k => ⟨trivial, mapE_keys js (k + 1)⟩
theorem find_bd : ∀ (js : List Joint) (w : ByteArray) (k : Nat), find js w k = -1 ∨ ((k : Int) ≤ find js w k ∧ find js w k < k + js.length)
  | [], _, _ => .inl rfl
  | j :: js, w, k => by
    rw [find]; split
    · right; simp; omega
    · rcases find_bd js w (k + 1) with h | h
      · exact .inl h
      · right; simp; omega
theorem find_map (w : ByteArray) : ∀ (js : List Joint) (k : Nat), findD (.str w) (mapE js k) = if find js w k < 0 then none else some ((find js w k).toNat - k, (false, [.int .i64 (find js w k)]))
  | [], k => rfl
  | j :: js, k => by
    rw [mapE, find]
    by_cases h : j.name = w
    · have e : keyEq (.str w) (.str j.name) = true := decide_eq_true h.symm
      simp only [findD, e, if_pos h]
      rw [if_neg (by omega)]; simp
    · have e : keyEq (.str w) (.str j.name) = false := decide_eq_false fun e => h e.symm
      simp only [findD, e, if_neg h]
      rw [find_map w js (k + 1)]
      rcases find_bd js w (k + 1) with h1 | h1
      · rw [h1]; rfl
      · rw [if_neg (by omega), if_neg (by omega)]
        simp; omega
theorem mapE_app : ∀ (js : List Joint) (k : Nat) (j : Joint), mapE (js ++ [j]) k = mapE js k ++ [((false, [.str j.name]), (false, [.int .i64 ((k + js.length : Nat) : Int)]))]
  | [], k, j => rfl
  | x :: js, k, j => by
    rw [List.cons_append, mapE, mapE_app js (k + 1) j, mapE, List.length_cons, show k + 1 + js.length = k + (js.length + 1) by omega]; rfl
def modJ : List Joint → Nat → (Joint → Joint) → List Joint
  | [], _, _ => []
  | j :: js, 0, f => f j :: js
  | j :: js, k + 1, f => j :: modJ js k f
theorem modJ_enc (f : Joint → Joint) : ∀ (js : List Joint) (i : Nat) (j : Joint), js[i]? = some j → (modJ js i f).map encJ = (js.map encJ).set i (encJ (f j))
  | [], i, j, h => by simp at h
  | x :: js, 0, j, h => by simp at h; subst h; rfl
  | x :: js, i + 1, j, h => by
    rw [modJ, List.map_cons, modJ_enc f js i j (by simpa using h)]; rfl
theorem modJ_map (f : Joint → Joint) (hf : ∀ j, (f j).name = j.name) : ∀ (js : List Joint) (i k : Nat), mapE (modJ js i f) k = mapE js k
  | [], _, _ => rfl
  | x :: js, 0, k => by rw [modJ, mapE, mapE, hf]
  | x :: js, i + 1, k => by rw [modJ, mapE, mapE, modJ_map f hf js i]
theorem modJ_len (f : Joint → Joint) : ∀ (js : List Joint) (i : Nat), (modJ js i f).length = js.length
  | [], _ => rfl
  | x :: js, 0 => rfl
  | x :: js, i + 1 => by rw [modJ, List.length_cons, modJ_len f js i, List.length_cons]
def readJ (js : List Joint) (a : List ByteArray) : Int × List Joint := match a with
  | [n, k, p, x, y, z, lo, hi, w] =>
    if nameOk n = false ∨ 0 ≤ find js n 0 then (802, js)
    else if kindI k < 0 then (803, js)
    else if p ≠ worldT ∧ find js p 0 < 0 then (810, js)
    else if ¬ (([x, y, z, lo, hi].all fun w => (numOf w).2) = true ∧ (intOf w).2 = true) then (809, js)
    else (0, js ++ [⟨n, kindI k, if p = worldT then -1 else find js p 0, ⟨(numOf x).1, (numOf y).1, (numOf z).1⟩, (numOf lo).1, (numOf hi).1, (intOf w).1, 65536, 65536, 65536⟩])
  | _ => (0, js)
def limF (s c t : ByteArray) (j : Joint) : Joint := { j with speed := (intOf s).1, accel := (intOf c).1, torque := (intOf t).1 }
def readL (js : List Joint) (a : List ByteArray) : Int × List Joint := match a with
  | [n, s, c, t] =>
    if find js n 0 < 0 then (810, js)
    else if ([s, c, t].all fun w => (intOf w).2) = false then (809, js)
    else (0, modJ js (find js n 0).toNat (limF s c t))
  | _ => (0, js)
def readM (js : List Joint) (ms : List Mass) (a : List ByteArray) : Int × List Mass := match a with
  | [n, m, x, y, z] =>
    if find js n 0 < 0 then (810, ms)
    else if ([m, x, y, z].all fun w => (numOf w).2) = false then (809, ms)
    else (0, ms ++ [⟨find js n 0, (numOf m).1, ⟨(numOf x).1, (numOf y).1, (numOf z).1⟩⟩])
  | _ => (0, ms)
theorem len9 {l : List ByteArray} (h : l.length = 9) : ∃ n k p x y z lo hi w, l = [n, k, p, x, y, z, lo, hi, w] := by
  match l, h with
  | [n, k, p, x, y, z, lo, hi, w], _ => exact ⟨n, k, p, x, y, z, lo, hi, w, rfl⟩
theorem len5 {l : List ByteArray} (h : l.length = 5) : ∃ n m x y z, l = [n, m, x, y, z] := by
  match l, h with
  | [n, m, x, y, z], _ => exact ⟨n, m, x, y, z, rfl⟩
theorem len4 {l : List ByteArray} (h : l.length = 4) : ∃ n s c t, l = [n, s, c, t] := by
  match l, h with
  | [n, s, c, t], _ => exact ⟨n, s, c, t, rfl⟩
abbrev mRd (r : Robot) : List (Nat × Box) := [(0, .vars Y.robot_reader [.row 1, .row 2, .row 3]), (1, .rows Y.Joint 12 (r.joints.map encJ)), (2, .rows Y.Mass 5 (r.masses.map encM)), (3, .mp (mapE r.joints 0))]
abbrev mRd' (r : Robot) : List (Nat × Box) := [(0, .vars Y.robot_reader [.row 4, .row 5, .row 3]), (4, .rows Y.Joint 12 (r.joints.map encJ)), (5, .rows Y.Mass 5 (r.masses.map encM)), (3, .mp (mapE r.joints 0))]
theorem mapU : Tryd.prog.underlying Y.map_string_int = some (.map Y.string Y.int) ∧ Tryd.prog.underlying Y.string = some .string := ⟨by kernel_rfl, by kernel_rfl⟩
theorem zInt : zAgg Tryd.prog Y.int = false := by kernel_rfl
theorem robot_limit_ (r : Robot) (n s c t : ByteArray) (hr : r.joints.length ≤ 1000000000) : FnOk Tryd.prog F.robot_reader_limit [.one (.vptr 0 0), .one (.dv (dAs [n, s, c, t]))] (mRd r) 4 (I (readL r.joints [n, s, c, t]).1) (mRd' ⟨(readL r.joints [n, s, c, t]).2, r.masses⟩) 6 := by
  refine fnOk tab mix G.robot_reader_limit rfl rfl (by kernel_rfl) rfl rfl ?_
  (conv => whnf)
  refine idx_and (xs := [n, s, c, t]) (x := n) (by decide) rfl ?_
  (conv => whnf)
  refine ⟨Y.string, Y.int, .string, ⟨mapU.1, mapU.2, trivial, mapE_keys _ _⟩, ?_⟩
  (conv => whnf)
  refine ⟨zInt, ?_⟩
  (conv => whnf)
  by_cases h : find r.joints n 0 < 0
  · refine find_is (r := none) (by rw [find_map, if_pos h]) ?_
    (conv => whnf)
    rw [readL, if_pos h]
    (conv => whnf)
    refine retO [] ?_
    (conv => whnf)
    exact ⟨[(4, 1), (5, 2)], ⟨rfl, trivial⟩, ⟨rfl, rfl, rfl, rfl, trivial⟩⟩
  refine find_is (by rw [find_map, if_neg h]) ?_
  (conv => whnf)
  refine ⟨⟨by decide, by simp⟩, ?_⟩
  (conv => whnf)
  refine call_i (robot_numbersInteger [s, c, t] (by simp)) ?_
  (conv => whnf)
  cases hall : [s, c, t].all fun w => (intOf w).2 with
  | false =>
    have hno : numsOf intOf [s, c, t] = none := by
      obtain ⟨w, hw, hb⟩ := List.all_eq_false.1 hall
      obtain ⟨k, hk⟩ := List.getElem?_of_mem hw
      exact numsOf_not hk (by simpa using hb)
    rw [hno]
    (conv => whnf)
    rw [readL, if_neg h, if_pos hall]
    (conv => whnf)
    refine retO [] ?_
    (conv => whnf)
    exact ⟨[(4, 1), (5, 2)], ⟨rfl, trivial⟩, ⟨rfl, rfl, rfl, rfl, trivial⟩⟩
  | true =>
    rw [numsOf_all hall]
    rw [readL, if_neg h, if_neg (by rw [hall]; decide)]
    obtain ⟨i, hi⟩ : ∃ i : Nat, find r.joints n 0 = i := ⟨(find r.joints n 0).toNat, by omega⟩
    have hib : i < r.joints.length := by
      rcases find_bd r.joints n 0 with h1 | h1 <;> omega
    obtain ⟨j, hj⟩ : ∃ j, r.joints[i]? = some j := ⟨_, List.getElem?_eq_getElem hib⟩
    have hmod := modJ_enc (limF s c t) r.joints i j hj
    have hmap := modJ_map (limF s c t) (fun _ => rfl) r.joints i 0
    have hjr : (r.joints.map encJ)[i]? = some (encJ j) := by rw [List.getElem?_map, hj]; rfl
    rw [hi, Int.toNat_natCast]
    (conv => whnf)
    refine ⟨⟨by omega, by rw [List.length_map]; omega⟩, ?_⟩
    (conv => whnf)
    rw [Int.toNat_natCast]
    refine idx_and (xs := [s, c, t].map fun w => (intOf w).1) (x := (intOf s).1) (by decide) rfl ?_
    (conv => whnf)
    refine idx_and (xs := [s, c, t].map fun w => (intOf w).1) (x := (intOf c).1) (by decide) rfl ?_
    (conv => whnf)
    refine idx_and (xs := [s, c, t].map fun w => (intOf w).1) (x := (intOf t).1) (by decide) rfl ?_
    (conv => whnf)
    refine idx_at hjr ?_
    (conv => whnf)
    refine idx_at (List.getElem?_set_self (by rw [List.length_map]; exact hib)) ?_
    (conv => whnf)
    refine idx_at (List.getElem?_set_self (by rw [List.length_set, List.length_map]; exact hib)) ?_
    (conv => whnf)
    (conv => whnf)
    refine retO [] ?_
    (conv => whnf)
    refine ⟨[(4, 1), (5, 2)], ⟨rfl, trivial⟩, ⟨rfl, ?_, rfl, ?_, trivial⟩⟩
    · refine rows_eq ?_
      rw [List.set_set, List.set_set, hmod]; rfl
    · rw [hmap]; rfl
theorem robot_mass_ (r : Robot) (n m x y z : ByteArray) (hr : r.joints.length ≤ 1000000000) (hm : r.masses.length ≤ 1000000000) (hs : ∀ w ∈ [m, x, y, z], w.size ≤ 4611686018427387904) : FnOk Tryd.prog F.robot_reader_mass [.one (.vptr 0 0), .one (.dv (dAs [n, m, x, y, z]))] (mRd r) 4 (I (readM r.joints r.masses [n, m, x, y, z]).1) (mRd' ⟨r.joints, (readM r.joints r.masses [n, m, x, y, z]).2⟩) 6 := by
  refine fnOk tab mix G.robot_reader_mass rfl rfl (by kernel_rfl) rfl rfl ?_
  (conv => whnf)
  refine idx_and (xs := [n, m, x, y, z]) (x := n) (by decide) rfl ?_
  (conv => whnf)
  refine ⟨Y.string, Y.int, .string, ⟨mapU.1, mapU.2, trivial, mapE_keys _ _⟩, ?_⟩
  (conv => whnf)
  refine ⟨zInt, ?_⟩
  (conv => whnf)
  by_cases h : find r.joints n 0 < 0
  · refine find_is (r := none) (by rw [find_map, if_pos h]) ?_
    (conv => whnf)
    rw [readM, if_pos h]
    (conv => whnf)
    refine retO [] ?_
    (conv => whnf)
    exact ⟨[(4, 1), (5, 2)], ⟨rfl, trivial⟩, ⟨rfl, rfl, rfl, rfl, trivial⟩⟩
  refine find_is (by rw [find_map, if_neg h]) ?_
  (conv => whnf)
  refine ⟨⟨by decide, by simp⟩, ?_⟩
  (conv => whnf)
  refine call_i (robot_numbersNumber [m, x, y, z] (by simp) hs) ?_
  (conv => whnf)
  cases hall : [m, x, y, z].all fun w => (numOf w).2 with
  | false =>
    have hno : numsOf numOf [m, x, y, z] = none := by
      obtain ⟨w, hw, hb⟩ := List.all_eq_false.1 hall
      obtain ⟨k, hk⟩ := List.getElem?_of_mem hw
      exact numsOf_not hk (by simpa using hb)
    rw [hno]
    (conv => whnf)
    rw [readM, if_neg h, if_pos hall]
    (conv => whnf)
    refine retO [] ?_
    (conv => whnf)
    exact ⟨[(4, 1), (5, 2)], ⟨rfl, trivial⟩, ⟨rfl, rfl, rfl, rfl, trivial⟩⟩
  | true =>
    rw [numsOf_all hall]
    rw [readM, if_neg h, if_neg (by rw [hall]; decide)]
    (conv => whnf)
    refine idx_and (xs := [m, x, y, z].map fun w => (numOf w).1) (x := (numOf m).1) (by decide) rfl ?_
    (conv => whnf)
    refine ⟨⟨by decide, by simp⟩, ?_⟩
    (conv => whnf)
    refine ⟨⟨by decide, by simp⟩, ?_⟩
    (conv => whnf)
    refine ⟨⟨by simp; omega, by simp; omega⟩, ?_⟩
    (conv => whnf)
    (conv => whnf)
    refine retO [] ?_
    (conv => whnf)
    refine ⟨[(4, 1)], ⟨rfl, trivial⟩, ⟨rfl, rfl, rows_eq ?_, rfl, trivial⟩⟩
    rw [List.map_append]; rfl
theorem robot_joint_ (r : Robot) (n k p x y z lo hi w : ByteArray) (hr : r.joints.length ≤ 1000000000) (hs : ∀ w ∈ [x, y, z, lo, hi], w.size ≤ 4611686018427387904) : FnOk Tryd.prog F.robot_reader_joint [.one (.vptr 0 0), .one (.dv (dAs [n, k, p, x, y, z, lo, hi, w]))] (mRd r) 4 (I (readJ r.joints [n, k, p, x, y, z, lo, hi, w]).1) (mRd' ⟨(readJ r.joints [n, k, p, x, y, z, lo, hi, w]).2, r.masses⟩) 6 := by
  refine fnOk tab mix G.robot_reader_joint rfl rfl (by kernel_rfl) rfl rfl ?_
  (conv => whnf)
  have fail : ∀ (e : Int) (q : Int × List Joint), q = (e, r.joints) → q.1 = e ∧ q.2 = r.joints := fun e q h => by rw [h]; exact ⟨rfl, rfl⟩
  refine idx_and (xs := [n, k, p, x, y, z, lo, hi, w]) (x := n) (by decide) rfl ?_
  (conv => whnf)
  refine ⟨Y.string, Y.int, .string, ⟨mapU.1, mapU.2, trivial, mapE_keys _ _⟩, ?_⟩
  (conv => whnf)
  refine ⟨zInt, ?_⟩
  (conv => whnf)
  rcases find_bd r.joints n 0 with h | h
  case inr =>
    refine find_is (by rw [find_map, if_neg (by omega)]) ?_
    (conv => whnf)
    rw [readJ, if_pos (.inr h.1)]
    (conv => whnf)
    refine retO [] ?_
    (conv => whnf)
    exact ⟨[(4, 1), (5, 2)], ⟨rfl, trivial⟩, ⟨rfl, rfl, rfl, rfl, trivial⟩⟩
  refine find_is (r := none) (by rw [find_map, if_pos (by omega)]) ?_
  (conv => whnf)
  refine call_i (token_Name n) ?_
  (conv => whnf)
  cases hn : nameOk n with
  | false =>
    (conv => whnf)
    rw [readJ, if_pos (.inl hn)]
    (conv => whnf)
    refine retO [] ?_
    (conv => whnf)
    exact ⟨[(4, 1), (5, 2)], ⟨rfl, trivial⟩, ⟨rfl, rfl, rfl, rfl, trivial⟩⟩
  | true =>
  rw [readJ, if_neg (by rw [hn]; simp; omega)]
  (conv => whnf)
  refine idx_and (xs := [n, k, p, x, y, z, lo, hi, w]) (x := k) (by decide) rfl ?_
  (conv => whnf)
  refine call_i (robot_kindOf k) ?_
  (conv => whnf)
  by_cases hk : kindI k < 0
  · rw [decide_eq_false (by omega)]
    (conv => whnf)
    rw [if_pos hk]
    (conv => whnf)
    refine retO [] ?_
    (conv => whnf)
    exact ⟨[(4, 1), (5, 2)], ⟨rfl, trivial⟩, ⟨rfl, rfl, rfl, rfl, trivial⟩⟩
  rw [decide_eq_true (by omega), if_neg hk, if_neg hk]
  (conv => whnf)
  refine idx_and (xs := [n, k, p, x, y, z, lo, hi, w]) (x := p) (by decide) rfl ?_
  (conv => whnf)
  refine ⟨Y.string, Y.int, .string, ⟨mapU.1, mapU.2, trivial, mapE_keys _ _⟩, ?_⟩
  (conv => whnf)
  refine ⟨zInt, ?_⟩
  (conv => whnf)
  by_cases hw : p = worldT
  · have hc : ¬ (p ≠ worldT ∧ find r.joints p 0 < 0) := fun h => h.1 hw
    rw [if_neg hc, if_pos hw]
    rcases find_bd r.joints p 0 with hp | hp
    · refine find_is (r := none) (by rw [find_map, if_pos (by omega)]) ?_
      (conv => whnf)
      refine idx_and (xs := [n, k, p, x, y, z, lo, hi, w]) (x := p) (by decide) rfl ?_
      (conv => whnf)
      refine ask_mt (decide_eq_true hw) ?_
      (conv => whnf)
      refine ⟨⟨by decide, by decide, by simp⟩, ?_⟩
      (conv => whnf)
      refine call_i (robot_numbersNumber [x, y, z, lo, hi] (by simp) hs) ?_
      (conv => whnf)
      refine idx_and (xs := [n, k, p, x, y, z, lo, hi, w]) (x := w) (by decide) rfl ?_
      (conv => whnf)
      refine call_i (token_Integer w) ?_
      (conv => whnf)
      cases hall : [x, y, z, lo, hi].all fun w => (numOf w).2 with
      | false =>
        have hno : numsOf numOf [x, y, z, lo, hi] = none := by
          obtain ⟨w, hw, hb⟩ := List.all_eq_false.1 hall
          obtain ⟨k, hk⟩ := List.getElem?_of_mem hw
          exact numsOf_not hk (by simpa using hb)
        rw [hno]
        (conv => whnf)
        rw [if_pos (by simp)]
        (conv => whnf)
        refine retO [] ?_
        (conv => whnf)
        exact ⟨[(4, 1), (5, 2)], ⟨rfl, trivial⟩, ⟨rfl, rfl, rfl, rfl, trivial⟩⟩
      | true =>
      rw [numsOf_all hall]
      (conv => whnf)
      cases hw2 : (intOf w).2 with
      | false =>
        (conv => whnf)
        rw [if_pos (by simp)]
        (conv => whnf)
        refine retO [] ?_
        (conv => whnf)
        exact ⟨[(4, 1), (5, 2)], ⟨rfl, trivial⟩, ⟨rfl, rfl, rfl, rfl, trivial⟩⟩
      | true =>
      rw [if_neg (by simp)]
      (conv => whnf)
      refine ⟨Y.string, Y.int, .string, ⟨mapU.1, mapU.2, trivial, mapE_keys _ _⟩, ?_⟩
      (conv => whnf)
      refine find_is (r := none) (by rw [find_map, if_pos (by omega)]) ?_
      (conv => whnf)
      refine ⟨⟨by decide, by simp⟩, ?_⟩
      (conv => whnf)
      refine ⟨⟨by decide, by simp⟩, ?_⟩
      (conv => whnf)
      refine idx_and (xs := [x, y, z, lo, hi].map fun w => (numOf w).1) (x := (numOf lo).1) (by decide) rfl ?_
      (conv => whnf)
      refine idx_and (xs := [x, y, z, lo, hi].map fun w => (numOf w).1) (x := (numOf hi).1) (by decide) rfl ?_
      (conv => whnf)
      refine ⟨⟨by simp; omega, by simp; omega⟩, ?_⟩
      (conv => whnf)
      (conv => whnf)
      refine retO [] ?_
      (conv => whnf)
      refine ⟨[(5, 2), (4, 5)], ⟨rfl, trivial⟩, ⟨rfl, rows_eq ?_, rfl, ?_, trivial⟩⟩
      · rw [List.map_append]; rfl
      · rw [mapE_app, Nat.zero_add, List.length_map]; rfl
    · refine find_is (by rw [find_map, if_neg (by omega)]) ?_
      (conv => whnf)
      refine idx_and (xs := [n, k, p, x, y, z, lo, hi, w]) (x := p) (by decide) rfl ?_
      (conv => whnf)
      refine ask_mt (decide_eq_true hw) ?_
      (conv => whnf)
      refine ⟨⟨by decide, by decide, by simp⟩, ?_⟩
      (conv => whnf)
      refine call_i (robot_numbersNumber [x, y, z, lo, hi] (by simp) hs) ?_
      (conv => whnf)
      refine idx_and (xs := [n, k, p, x, y, z, lo, hi, w]) (x := w) (by decide) rfl ?_
      (conv => whnf)
      refine call_i (token_Integer w) ?_
      (conv => whnf)
      cases hall : [x, y, z, lo, hi].all fun w => (numOf w).2 with
      | false =>
        have hno : numsOf numOf [x, y, z, lo, hi] = none := by
          obtain ⟨w, hw, hb⟩ := List.all_eq_false.1 hall
          obtain ⟨k, hk⟩ := List.getElem?_of_mem hw
          exact numsOf_not hk (by simpa using hb)
        rw [hno]
        (conv => whnf)
        rw [if_pos (by simp)]
        (conv => whnf)
        refine retO [] ?_
        (conv => whnf)
        exact ⟨[(4, 1), (5, 2)], ⟨rfl, trivial⟩, ⟨rfl, rfl, rfl, rfl, trivial⟩⟩
      | true =>
      rw [numsOf_all hall]
      (conv => whnf)
      cases hw2 : (intOf w).2 with
      | false =>
        (conv => whnf)
        rw [if_pos (by simp)]
        (conv => whnf)
        refine retO [] ?_
        (conv => whnf)
        exact ⟨[(4, 1), (5, 2)], ⟨rfl, trivial⟩, ⟨rfl, rfl, rfl, rfl, trivial⟩⟩
      | true =>
      rw [if_neg (by simp)]
      (conv => whnf)
      refine ⟨Y.string, Y.int, .string, ⟨mapU.1, mapU.2, trivial, mapE_keys _ _⟩, ?_⟩
      (conv => whnf)
      refine find_is (r := none) (by rw [find_map, if_pos (by omega)]) ?_
      (conv => whnf)
      refine ⟨⟨by decide, by simp⟩, ?_⟩
      (conv => whnf)
      refine ⟨⟨by decide, by simp⟩, ?_⟩
      (conv => whnf)
      refine idx_and (xs := [x, y, z, lo, hi].map fun w => (numOf w).1) (x := (numOf lo).1) (by decide) rfl ?_
      (conv => whnf)
      refine idx_and (xs := [x, y, z, lo, hi].map fun w => (numOf w).1) (x := (numOf hi).1) (by decide) rfl ?_
      (conv => whnf)
      refine ⟨⟨by simp; omega, by simp; omega⟩, ?_⟩
      (conv => whnf)
      (conv => whnf)
      refine retO [] ?_
      (conv => whnf)
      refine ⟨[(5, 2), (4, 5)], ⟨rfl, trivial⟩, ⟨rfl, rows_eq ?_, rfl, ?_, trivial⟩⟩
      · rw [List.map_append]; rfl
      · rw [mapE_app, Nat.zero_add, List.length_map]; rfl
  · rw [if_neg hw]
    rcases find_bd r.joints p 0 with hp | hp
    · rw [if_pos ⟨hw, by omega⟩]
      refine find_is (r := none) (by rw [find_map, if_pos (by omega)]) ?_
      (conv => whnf)
      refine idx_and (xs := [n, k, p, x, y, z, lo, hi, w]) (x := p) (by decide) rfl ?_
      (conv => whnf)
      refine ask_mf (decide_eq_false hw) ?_
      (conv => whnf)
      refine retO [] ?_
      (conv => whnf)
      exact ⟨[(4, 1), (5, 2)], ⟨rfl, trivial⟩, ⟨rfl, rfl, rfl, rfl, trivial⟩⟩
    · rw [if_neg (fun h => by omega)]
      refine find_is (by rw [find_map, if_neg (by omega)]) ?_
      (conv => whnf)
      refine idx_and (xs := [n, k, p, x, y, z, lo, hi, w]) (x := p) (by decide) rfl ?_
      (conv => whnf)
      refine ask_mf (decide_eq_false hw) ?_
      (conv => whnf)
      refine ⟨⟨by decide, by decide, by simp⟩, ?_⟩
      (conv => whnf)
      refine call_i (robot_numbersNumber [x, y, z, lo, hi] (by simp) hs) ?_
      (conv => whnf)
      refine idx_and (xs := [n, k, p, x, y, z, lo, hi, w]) (x := w) (by decide) rfl ?_
      (conv => whnf)
      refine call_i (token_Integer w) ?_
      (conv => whnf)
      cases hall : [x, y, z, lo, hi].all fun w => (numOf w).2 with
      | false =>
        have hno : numsOf numOf [x, y, z, lo, hi] = none := by
          obtain ⟨w, hw, hb⟩ := List.all_eq_false.1 hall
          obtain ⟨k, hk⟩ := List.getElem?_of_mem hw
          exact numsOf_not hk (by simpa using hb)
        rw [hno]
        (conv => whnf)
        rw [if_pos (by simp)]
        (conv => whnf)
        refine retO [] ?_
        (conv => whnf)
        exact ⟨[(4, 1), (5, 2)], ⟨rfl, trivial⟩, ⟨rfl, rfl, rfl, rfl, trivial⟩⟩
      | true =>
      rw [numsOf_all hall]
      (conv => whnf)
      cases hw2 : (intOf w).2 with
      | false =>
        (conv => whnf)
        rw [if_pos (by simp)]
        (conv => whnf)
        refine retO [] ?_
        (conv => whnf)
        exact ⟨[(4, 1), (5, 2)], ⟨rfl, trivial⟩, ⟨rfl, rfl, rfl, rfl, trivial⟩⟩
      | true =>
      rw [if_neg (by simp)]
      (conv => whnf)
      refine ⟨Y.string, Y.int, .string, ⟨mapU.1, mapU.2, trivial, mapE_keys _ _⟩, ?_⟩
      (conv => whnf)
      refine find_is (r := none) (by rw [find_map, if_pos (by omega)]) ?_
      (conv => whnf)
      refine ⟨⟨by decide, by simp⟩, ?_⟩
      (conv => whnf)
      refine ⟨⟨by decide, by simp⟩, ?_⟩
      (conv => whnf)
      refine idx_and (xs := [x, y, z, lo, hi].map fun w => (numOf w).1) (x := (numOf lo).1) (by decide) rfl ?_
      (conv => whnf)
      refine idx_and (xs := [x, y, z, lo, hi].map fun w => (numOf w).1) (x := (numOf hi).1) (by decide) rfl ?_
      (conv => whnf)
      refine ⟨⟨by simp; omega, by simp; omega⟩, ?_⟩
      (conv => whnf)
      (conv => whnf)
      refine retO [] ?_
      (conv => whnf)
      refine ⟨[(5, 2), (4, 5)], ⟨rfl, trivial⟩, ⟨rfl, rows_eq ?_, rfl, ?_, trivial⟩⟩
      · rw [List.map_append]; rfl
      · rw [mapE_app, Nat.zero_add, List.length_map]; rfl
end Go.Proofs.YtafglmjadbplcaaDoor

/- Reading robots: statement, Read. -/
namespace Go.Proofs.YtafglmjadbplcaaDoor
open Eng
set_option maxRecDepth 10000
attribute [local irreducible] FnOk loopW idxF retX arrF findF

abbrev StA (s : Stmt) : SV := .agg [.dv (.int .i64 s.line), .dv (.str s.word), .dv (.lst 1 (s.args.map encA))]
def readSt (r : Robot) (s : Stmt) : Int × Robot :=
  if s.word = wJoint then if argsB s.word s.args.length = false then (702, r) else ((readJ r.joints s.args).1, ⟨(readJ r.joints s.args).2, r.masses⟩)
  else if s.word = wLimit then if argsB s.word s.args.length = false then (702, r) else ((readL r.joints s.args).1, ⟨(readL r.joints s.args).2, r.masses⟩)
  else if s.word = wMass then if argsB s.word s.args.length = false then (702, r) else ((readM r.joints r.masses s.args).1, ⟨r.joints, (readM r.joints r.masses s.args).2⟩)
  else (0, r)
theorem args_joint {n : Nat} (h : argsB wJoint n = true) : n = 9 := by
  have e : countsOf wJoint = some ⟨9, 9, 1⟩ := rfl
  rw [argsB, e] at h
  simp [allowB] at h
  omega
theorem args_limit {n : Nat} (h : argsB wLimit n = true) : n = 4 := by
  have e : countsOf wLimit = some ⟨4, 4, 1⟩ := rfl
  rw [argsB, e] at h
  simp [allowB] at h
  omega
theorem args_mass {n : Nat} (h : argsB wMass n = true) : n = 5 := by
  have e : countsOf wMass = some ⟨5, 5, 1⟩ := rfl
  rw [argsB, e] at h
  simp [allowB] at h
  omega
def stOk (s : Stmt) : Prop := ∀ w ∈ s.args, w.size ≤ 4611686018427387904
theorem robot_statement (r : Robot) (s : Stmt) (hr : r.joints.length ≤ 1000000000) (hm : r.masses.length ≤ 1000000000) (hs : stOk s) : FnOk Tryd.prog F.robot_reader_statement [.one (.vptr 0 0), StA s] (mRd r) 4 (I (readSt r s).1) (mRd' (readSt r s).2) 6 := by
  refine fnOk tab mix G.robot_reader_statement rfl rfl (by kernel_rfl) rfl rfl ?_
  (conv => whnf)
  refine ask_m (fun h1 => ?_) (fun h1 => ?_)
  · have h1 : s.word = wJoint := of_decide_eq_true h1
    rw [readSt, if_pos h1, h1]
    (conv => whnf)
    refine call_i (syntax_Arguments wJoint ((s.args.map encA).length)) ?_
    (conv => whnf)
    rw [List.length_map]
    cases ha : argsB wJoint s.args.length with
    | false =>
      (conv => whnf)
      (conv => whnf)
      refine retO [] ?_
      (conv => whnf)
      exact ⟨[(4, 1), (5, 2)], ⟨rfl, trivial⟩, ⟨rfl, rfl, rfl, rfl, trivial⟩⟩
    | true =>
      obtain ⟨n, k, p, x, y, z, lo, hi, w, e⟩ := len9 (args_joint ha)
      rw [e]
      (conv => whnf)
      refine call_i (robot_joint_ r n k p x y z lo hi w hr (fun w hw => hs w (by rw [e]; simp only [List.mem_cons, List.not_mem_nil, or_false] at hw ⊢; rcases hw with h | h | h | h | h <;> simp [h]))) ?_
      (conv => whnf)
      (conv => whnf)
      refine retO [] ?_
      (conv => whnf)
      exact ⟨[(4, 5), (5, 6)], ⟨rfl, trivial⟩, ⟨rfl, rfl, rfl, rfl, trivial⟩⟩
  have h1 : ¬ s.word = wJoint := of_decide_eq_false h1
  rw [readSt, if_neg h1]
  (conv => whnf)
  refine ask_m (fun h2 => ?_) (fun h2 => ?_)
  · have h2 : s.word = wLimit := of_decide_eq_true h2
    rw [if_pos h2, h2]
    (conv => whnf)
    refine call_i (syntax_Arguments wLimit ((s.args.map encA).length)) ?_
    (conv => whnf)
    rw [List.length_map]
    cases ha : argsB wLimit s.args.length with
    | false =>
      (conv => whnf)
      (conv => whnf)
      refine retO [] ?_
      (conv => whnf)
      exact ⟨[(4, 1), (5, 2)], ⟨rfl, trivial⟩, ⟨rfl, rfl, rfl, rfl, trivial⟩⟩
    | true =>
      obtain ⟨n, a, b, c, e⟩ := len4 (args_limit ha)
      rw [e]
      (conv => whnf)
      refine call_i (robot_limit_ r n a b c hr) ?_
      (conv => whnf)
      (conv => whnf)
      refine retO [] ?_
      (conv => whnf)
      exact ⟨[(4, 5), (5, 6)], ⟨rfl, trivial⟩, ⟨rfl, rfl, rfl, rfl, trivial⟩⟩
  have h2 : ¬ s.word = wLimit := of_decide_eq_false h2
  rw [if_neg h2]
  (conv => whnf)
  refine ask_m (fun h3 => ?_) (fun h3 => ?_)
  · have h3 : s.word = wMass := of_decide_eq_true h3
    rw [if_pos h3, h3]
    (conv => whnf)
    refine call_i (syntax_Arguments wMass ((s.args.map encA).length)) ?_
    (conv => whnf)
    rw [List.length_map]
    cases ha : argsB wMass s.args.length with
    | false =>
      (conv => whnf)
      (conv => whnf)
      refine retO [] ?_
      (conv => whnf)
      exact ⟨[(4, 1), (5, 2)], ⟨rfl, trivial⟩, ⟨rfl, rfl, rfl, rfl, trivial⟩⟩
    | true =>
      obtain ⟨n, m, x, y, z, e⟩ := len5 (args_mass ha)
      rw [e]
      (conv => whnf)
      refine call_i (robot_mass_ r n m x y z hr hm (fun w hw => hs w (by rw [e]; exact List.mem_cons_of_mem _ hw))) ?_
      (conv => whnf)
      (conv => whnf)
      refine retO [] ?_
      (conv => whnf)
      exact ⟨[(4, 5), (5, 6)], ⟨rfl, trivial⟩, ⟨rfl, rfl, rfl, rfl, trivial⟩⟩
  have h3 : ¬ s.word = wMass := of_decide_eq_false h3
  rw [if_neg h3]
  (conv => whnf)
  (conv => whnf)
  refine retO [] ?_
  (conv => whnf)
  exact ⟨[(4, 1), (5, 2)], ⟨rfl, trivial⟩, ⟨rfl, rfl, rfl, rfl, trivial⟩⟩
def emptyR : Robot := ⟨[], []⟩
def readAll : Robot → List Stmt → Robot × Int × Int
  | r, [] => (r, 0, 0)
  | r, s :: l => if (readSt r s).1 = 0 then readAll (readSt r s).2 l else (emptyR, (readSt r s).1, s.line)
def readRobot (l : List Stmt) : Robot × Int × Int :=
  if (readAll emptyR l).2.1 ≠ 0 then readAll emptyR l
  else if checkRobot (readAll emptyR l).1 ≠ 0 then (emptyR, checkRobot (readAll emptyR l).1, 0)
  else ((readAll emptyR l).1, 0, 0)
theorem readSt_len (r : Robot) (s : Stmt) : (readSt r s).2.joints.length ≤ r.joints.length + 1 ∧ (readSt r s).2.masses.length ≤ r.masses.length + 1 := by
  have hJ : ∀ a, (readJ r.joints a).2.length ≤ r.joints.length + 1 := fun a => by
    unfold readJ
    repeat' split
    all_goals simp
  have hL : ∀ a, (readL r.joints a).2.length ≤ r.joints.length + 1 := fun a => by
    unfold readL
    repeat' split
    all_goals first | (simp only [modJ_len]; omega) | simp
  have hM : ∀ a, (readM r.joints r.masses a).2.length ≤ r.masses.length + 1 := fun a => by
    unfold readM
    repeat' split
    all_goals simp
  unfold readSt
  repeat' split
  all_goals first
    | exact ⟨hJ _, Nat.le_succ _⟩
    | exact ⟨hL _, Nat.le_succ _⟩
    | exact ⟨Nat.le_succ _, hM _⟩
    | exact ⟨Nat.le_succ _, Nat.le_succ _⟩
abbrev RdR (q : Robot × Int × Int) : SV := .tup [(true, [.dv (dJs q.1.joints), .dv (dMs q.1.masses)]), (true, [.dv (.int .i64 q.2.1), .dv (.int .i64 q.2.2)])]
theorem robot_Read (l : List Stmt) (hl : l.length ≤ 10000000) (hs : ∀ s ∈ l, stOk s) : FnOk Tryd.prog F.robot_Read [.one (.dv (dSts l))] [] 0 (RdR (readRobot l)) [] 0 := by
  refine fnOk tab mix G.robot_Read rfl rfl (by kernel_rfl) rfl rfl ?_
  (conv => whnf)
  refine loop_intro (fun p : Nat × Robot => ⟨[(0, .one (.dv (dSts l))), (2, .one (.vptr 0 0)), (3, .one (.vptr 1 0)), (4, .one (.vptr 2 0)), (11, .one (.dv (dSts l))), (12, I l.length), (13, I p.1)], [(0, .vars Y.Robot [.nil 12, .nil 5]), (1, .vars Y.SourceError [.dv (.int .i64 0), .dv (.int .i64 0)]), (2, .vars Y.robot_reader [.row 4, .row 5, .row 3]), (3, .mp (mapE p.2.joints 0)), (4, .rows Y.Joint 12 (p.2.joints.map encJ)), (5, .rows Y.Mass 5 (p.2.masses.map encM))], 6⟩) (fun p => p.1 ≤ l.length ∧ p.2.joints.length ≤ p.1 ∧ p.2.masses.length ≤ p.1 ∧ readAll p.2 (l.drop p.1) = readAll emptyR l) (fun p => l.length - p.1) [.ownC 3 0 Y.Joint 12, .ownC 3 1 Y.Mass 5] (0, emptyR) [(2, 3), (3, 2)] ⟨Nat.zero_le _, Nat.zero_le _, Nat.zero_le _, rfl⟩ ⟨⟨rfl, rfl, rfl, rfl, rfl, eqI (by simp), rfl, trivial⟩, ⟨rfl, rfl, rfl, rfl, rfl, rfl, trivial⟩⟩ ?_
  rintro ⟨k, r⟩ ⟨hk, hj, hm, hall⟩
  simp only at hk hj hm hall
  have hkk : IntKind.i64.wrap ((k : Int) + 1) = ((k + 1 : Nat) : Int) := by rw [w64] <;> omega
  (conv => whnf)
  refine ask_m (fun hlt => ?_) (fun hlt => ?_)
  · have hlt : k < l.length := by have := of_decide_eq_true hlt; omega
    obtain ⟨s, hsk⟩ : ∃ s, l[k]? = some s := ⟨_, List.getElem?_eq_getElem hlt⟩
    rw [drop_cons hsk, readAll] at hall
    have hlen := readSt_len r s
    (conv => whnf)
    refine idx_and (by omega) (by simpa using hsk) ?_
    (conv => whnf)
    refine call_i (robot_statement r s (by omega) (by omega) (hs s (List.mem_of_getElem? hsk))) ?_
    (conv => whnf)
    refine ask_m (fun he => ?_) (fun he => ?_)
    · have he : ¬ (readSt r s).1 = 0 := by simpa using he
      rw [if_neg he] at hall
      rw [readRobot, ← hall, if_pos he]
      (conv => whnf)
      refine retO [.ownC 0 0 Y.Joint 12, .ownC 0 1 Y.Mass 5, .frz 9, .frz 10] ?_
      (conv => whnf)
      exact ⟨[], ⟨rfl, trivial⟩, trivial⟩
    · have he : (readSt r s).1 = 0 := by simpa using he
      rw [if_pos he] at hall
      (conv => whnf)
      exact ⟨(k + 1, (readSt r s).2), [(4, 7), (5, 8)], ⟨hlt, by simp only; omega, by simp only; omega, hall⟩, by simp only; omega, ⟨⟨rfl, rfl, rfl, rfl, rfl, rfl, eqI hkk, trivial⟩, ⟨rfl, rfl, rfl, rfl, rfl, rfl, trivial⟩⟩⟩
  · have hk : k = l.length := by have := of_decide_eq_false hlt; omega
    subst hk
    rw [List.drop_length, readAll] at hall
    rw [readRobot, ← hall, if_neg (by simp)]
    (conv => whnf)
    refine call_i (robot_Check r (by omega) (by omega)) ?_
    (conv => whnf)
    refine ⟨⟨trivial, trivial⟩, ?_⟩
    (conv => whnf)
    refine ask_m (fun he => ?_) (fun he => ?_)
    · have he : ¬ checkRobot r = 0 := by simpa using he
      rw [if_pos he]
      (conv => whnf)
      refine retO [.ownC 0 0 Y.Joint 12, .ownC 0 1 Y.Mass 5, .frz 6, .frz 7] ?_
      (conv => whnf)
      exact ⟨[], ⟨rfl, trivial⟩, trivial⟩
    · have he : checkRobot r = 0 := by simpa using he
      rw [if_neg (by simp [he])]
      (conv => whnf)
      refine retO [.frz 4, .frz 5] ?_
      (conv => whnf)
      exact ⟨[], ⟨rfl, trivial⟩, trivial⟩
end Go.Proofs.YtafglmjadbplcaaDoor

/- Decimal texts as numbers. -/
namespace Go.Proofs.YtafglmjadbplcaaDoor
open Eng
set_option maxRecDepth 10000

theorem decB_dig (k n : Nat) : allDig (decB k n) k = true := by
  rw [allDig_iff]
  intro i hi
  rw [decB_byte n k i hi]
  have h : ∀ d, d < 10 → digitB (48 + (d : Nat)) = true := by decide
  exact h _ (Nat.mod_lt _ (by decide))
theorem decB_val (k n : Nat) : ∀ i, i ≤ k → dval (decB k n) i = (n / 10 ^ (k - i) % 10 ^ i : Nat)
  | 0, _ => by simp [dval, Nat.mod_one]
  | i + 1, h => by
    rw [dval, decB_val k n i (by omega), decB_byte n k i (by omega)]
    have e1 : n / 10 ^ (k - i) = n / 10 ^ (k - (i + 1)) / 10 := by
      rw [Nat.div_div_eq_div_mul, ← Nat.pow_succ, show (k - (i + 1)).succ = k - i by omega]
    rw [e1, show k - 1 - i = k - (i + 1) by omega]
    generalize n / 10 ^ (k - (i + 1)) = A
    have h1 : A % 10 ^ (i + 1) = (A / 10 % 10 ^ i) * 10 + A % 10 := by
      rw [Nat.pow_succ, Nat.mul_comm (10 ^ i) 10, Nat.mod_mul]; omega
    rw [h1]; omega
theorem dlen_ex {n k m : Nat} (hn : n < 10 ^ m) (hk : k ≤ m) : ∃ j, j ≤ m ∧ n / 10 ^ j = 0 ∧ k ≤ j ∧ ∀ i, i < j → ¬ (n / 10 ^ i = 0 ∧ k ≤ i) := by
  have key : ∀ d j, m - j = d → j ≤ m → (∀ i, i < j → ¬ (n / 10 ^ i = 0 ∧ k ≤ i)) → ∃ j, j ≤ m ∧ n / 10 ^ j = 0 ∧ k ≤ j ∧ ∀ i, i < j → ¬ (n / 10 ^ i = 0 ∧ k ≤ i) := by
    intro d
    induction d with
    | zero =>
      intro j h1 h2 h3
      obtain rfl : j = m := by omega
      exact ⟨j, Nat.le_refl _, Nat.div_eq_of_lt hn, hk, h3⟩
    | succ d ih =>
      intro j h1 h2 h3
      by_cases h : n / 10 ^ j = 0 ∧ k ≤ j
      · exact ⟨j, h2, h.1, h.2, h3⟩
      · exact ih (j + 1) (by omega) (by omega) fun i hi => by
          rcases Nat.lt_or_ge i j with h' | h'
          · exact h3 i h'
          · obtain rfl : i = j := by omega
            exact h
  exact key _ 0 rfl (Nat.zero_le _) fun i hi => by omega
theorem lt_of_div {n j : Nat} (h : n / 10 ^ j = 0) : n < 10 ^ j := by
  rcases Nat.lt_or_ge n (10 ^ j) with h' | h'
  · exact h'
  · have := Nat.div_pos h' (Nat.pow_pos (by decide)); omega
/-- the number of a decimal text with a point -/
theorem numOf_point {j n w f : Nat} (hj1 : 1 ≤ j) (hj5 : j ≤ 5) (hw : w / 10 ^ j = 0) (hn1 : 1 ≤ n) (hn6 : n ≤ 6) (hf : f < 10 ^ n) :
    numOf ((decB j w ++ ⟨#[46]⟩) ++ decB n f) = if 2147483648 < ((w * 1000000 + f * 10 ^ (6 - n)) * 65536 + 500000 : Int) / 1000000 then (0, false) else (((w * 1000000 + f * 10 ^ (6 - n)) * 65536 + 500000 : Int) / 1000000, true) := by
  have hw' := lt_of_div hw
  have s1 : (decB j w).size = j := decB_size j w
  have s2 : (decB n f).size = n := decB_size n f
  have s3 : (decB j w ++ ⟨#[46]⟩).size = j + 1 := by rw [ByteArray.size_append, s1]; rfl
  have s4 : ((decB j w ++ ⟨#[46]⟩) ++ decB n f).size = j + 1 + n := by rw [ByteArray.size_append, s3, s2]
  have b1 : ∀ i, i < j → byteAt ((decB j w ++ ⟨#[46]⟩) ++ decB n f) i = byteAt (decB j w) i := fun i hi => by
    rw [byteAt_app, if_pos (by omega), byteAt_app, if_pos (by omega)]
  have b2 : byteAt ((decB j w ++ ⟨#[46]⟩) ++ decB n f) j = 46 := by
    rw [byteAt_app, if_pos (by omega), byteAt_app, if_neg (by omega), s1, Nat.sub_self]; rfl
  have e : ((decB j w ++ ⟨#[46]⟩) ++ decB n f).extract (j + 1) ((decB j w ++ ⟨#[46]⟩) ++ decB n f).size = decB n f := by
    refine ByteArray.ext_getElem (by rw [ByteArray.size_extract, s4, s2]; omega) fun i hi hi' => ?_
    rw [ByteArray.getElem_extract, ByteArray.getElem_append_right (by omega)]
    congr 1; omega
  generalize (decB j w ++ ⟨#[46]⟩) ++ decB n f = t at *
  have d1 : allDig t j = true := by
    rw [allDig_iff]
    intro i hi
    rw [b1 i hi]; exact allDig_iff.1 (decB_dig j w) i hi
  have v1 : dval t j = w := by
    have : ∀ i, i ≤ j → dval t i = dval (decB j w) i := by
      intro i
      induction i with
      | zero => intro _; rfl
      | succ i ih => intro h; rw [dval, dval, ih (by omega), b1 i (by omega)]
    rw [this j (Nat.le_refl _), decB_val j w j (Nat.le_refl _), Nat.sub_self, Nat.pow_zero, Nat.div_one, Nat.mod_eq_of_lt hw']
  have v2 : dval (decB n f) n = f := by rw [decB_val n f n (Nat.le_refl _), Nat.sub_self, Nat.pow_zero, Nat.div_one, Nat.mod_eq_of_lt hf]
  have hh : headB t 45 = false := by
    have := digit_bd (allDig_iff.1 d1 0 (by omega))
    simp only [headB, Bool.and_eq_false_iff, decide_eq_false_iff_not]
    right
    show ¬ byteAt t 0 = 45
    omega
  have hp := numN_point (t := t) (j := j) (by omega) d1 b2 hj1 hj5
  rw [e, s2, v1, v2, if_neg (by rw [digOk_mk (by omega) (by omega) (by rw [s2]; exact decB_dig n f)]; simp)] at hp
  rw [numOf, tailB, hh, if_neg (by simp), hp]
  simp
end Go.Proofs.YtafglmjadbplcaaDoor

/- Numerals. No program in sight. -/
namespace Go.Proofs.YtafglmjadbplcaaDoor
open Eng
set_option maxRecDepth 100000

/- numerals -/
theorem nd_dl : ∀ f u, u < 10 ^ (f + 1) → dl (f + 1) u 1 = Lib.nDigits u
  | 0, u, h => by
    have : u < 10 := by simpa using h
    rw [Lib.nDigits, dif_pos this, dl, if_neg (by omega)]; rfl
  | f + 1, u, h => by
    rw [Lib.nDigits, dl, if_neg (by omega)]
    split
    · rename_i h10
      rw [Nat.div_eq_of_lt h10, dl, if_pos (by omega)]
    · rename_i h10
      have ih := nd_dl f (u / 10) (by rw [Nat.pow_succ] at h; omega)
      rw [← ih, dl, dl, if_neg (by omega), if_neg (by omega)]
theorem nd_dl20 {u : Nat} (h : u ≤ 9223372036854775807) : dl 20 u 1 = Lib.nDigits u := nd_dl 19 u (Nat.lt_of_le_of_lt h (by decide))
theorem txt_eq' {s t : ByteArray} (hs : s.size = t.size) (h : ∀ i, i < s.size → byteAt s i = byteAt t i) : s = t := by
  refine ByteArray.ext_getElem hs fun i hi hi' => ?_
  have := h i hi
  rw [byteAt_get hi, byteAt_get hi'] at this
  exact UInt8.toNat_inj.1 (Int.ofNat.inj this)
def itT (n : Int) : ByteArray := ⟨(Lib.itoa n).toArray⟩
theorem itT_dec {u : Nat} (h : u ≤ 9223372036854775807) : itT (u : Int) = decT u 1 := by
  have hd : (decT u 1).size = Lib.nDigits u := by rw [decT, decB_size, nd_dl20 h]
  have hs : (itT (u : Int)).size = Lib.nDigits u := by
    rw [itT, Lib.itoa_nonneg]
    show (Lib.decDigits u).toArray.size = _
    rw [List.size_toArray, Lib.decDigits_length]
  refine txt_eq' (hs.trans hd.symm) fun i hi => ?_
  rw [hs] at hi
  have e1 : byteAt (decT u 1) i = 48 + ((u / 10 ^ (Lib.nDigits u - 1 - i) % 10 : Nat) : Int) := by rw [decT, nd_dl20 h, decB_byte _ _ _ hi]
  rw [e1, byteAt_get (by omega)]
  have e2 : (itT (u : Int))[i]'(by omega) = Lib.dg u (Lib.nDigits u - 1 - i) := by
    have : (Lib.decDigits u)[i]'(by rw [Lib.decDigits_length]; exact hi) = Lib.dg u (Lib.nDigits u - 1 - i) := by
      simp [Lib.decDigits_eq]
    rw [← this]
    simp only [itT, Lib.itoa_nonneg]
    rfl
  rw [e2, Lib.dg]
  have : u / 10 ^ (Lib.nDigits u - 1 - i) % 10 < 10 := Nat.mod_lt _ (by decide)
  simp only [UInt8.toNat_ofNat']
  omega
theorem dl_at {n k j : Nat} (hn : n ≤ 9223372036854775807) (hk : k ≤ 20) (h0 : n / 10 ^ j = 0) (h1 : k ≤ j) (h2 : ∀ i, i < j → ¬ (n / 10 ^ i = 0 ∧ k ≤ i)) : dl 20 n k = j := by
  obtain ⟨a, b, c, d⟩ := dl20 hn hk
  rcases Nat.lt_trichotomy (dl 20 n k) j with h | h | h
  · exact absurd ⟨a, b⟩ (h2 _ h)
  · exact h
  · exact absurd ⟨h0, h1⟩ (d j h)
theorem dec5 {v : Nat} (h : v ≤ 99999) : decT v 5 = decB 5 v := by
  rw [decT, dl_at (j := 5) (by omega) (by decide) (Nat.div_eq_of_lt (by show v < 100000; omega)) (by decide) (fun i hi h => by omega)]
theorem dec6 {v : Nat} (h : v ≤ 99999) : decT (100000 + v) 1 = dig 1 ++ decB 5 v := by
  have e : dl 20 (100000 + v) 1 = 6 := dl_at (by omega) (by decide) (Nat.div_eq_of_lt (by show _ < 1000000; omega)) (by decide) fun i hi hh => by
    have : i = 1 ∨ i = 2 ∨ i = 3 ∨ i = 4 ∨ i = 5 := by omega
    obtain ⟨h1, _⟩ := hh
    rcases this with rfl | rfl | rfl | rfl | rfl
    · have : (100000 + v) / 10 = 0 := h1
      omega
    · have : (100000 + v) / 100 = 0 := h1
      omega
    · have : (100000 + v) / 1000 = 0 := h1
      omega
    · have : (100000 + v) / 10000 = 0 := h1
      omega
    · have : (100000 + v) / 100000 = 0 := h1
      omega
  have d5 : (100000 + v) / 10 ^ 5 % 10 = 1 := by show (100000 + v) / 100000 % 10 = 1; omega
  have d4 : (100000 + v) / 10 ^ 4 % 10 = v / 10 ^ 4 % 10 := by show (100000 + v) / 10000 % 10 = v / 10000 % 10; omega
  have d3 : (100000 + v) / 10 ^ 3 % 10 = v / 10 ^ 3 % 10 := by show (100000 + v) / 1000 % 10 = v / 1000 % 10; omega
  have d2 : (100000 + v) / 10 ^ 2 % 10 = v / 10 ^ 2 % 10 := by show (100000 + v) / 100 % 10 = v / 100 % 10; omega
  have d1 : (100000 + v) / 10 ^ 1 % 10 = v / 10 ^ 1 % 10 := by show (100000 + v) / 10 % 10 = v / 10 % 10; omega
  have d0 : (100000 + v) / 10 ^ 0 % 10 = v / 10 ^ 0 % 10 := by show (100000 + v) / 1 % 10 = v / 1 % 10; omega
  rw [decT, e]
  simp only [decB, d5, d4, d3, d2, d1, d0]
theorem tail6 {v : Nat} (h : v ≤ 99999) : (decT (100000 + v) 1).extract 1 (decT (100000 + v) 1).size = decT v 5 := by
  rw [dec5 h, dec6 h]
  have s1 : (dig 1).size = 1 := by decide
  have s2 : (decB 5 v).size = 5 := decB_size 5 v
  refine ByteArray.ext_getElem (by rw [ByteArray.size_extract, ByteArray.size_append]; omega) fun i hi hi' => ?_
  rw [ByteArray.getElem_extract, ByteArray.getElem_append_right (by omega)]
  congr 1; omega

end Go.Proofs.YtafglmjadbplcaaDoor

/- The number of a formatted text. No program in sight. -/
namespace Go.Proofs.YtafglmjadbplcaaDoor
open Eng
set_option maxRecDepth 10000

theorem dec_ext (k v m : Nat) (h : m ≤ k) : (decB k v).extract 0 m = decB m (v / 10 ^ (k - m)) := by
  have s1 : (decB k v).size = k := decB_size k v
  have s2 : ((decB k v).extract 0 m).size = m := by rw [ByteArray.size_extract]; omega
  refine txt_eq' (s2.trans (decB_size m _).symm) fun i hi => ?_
  rw [s2] at hi
  rw [ext_byte (by omega) hi, decB_byte v k i (by omega), decB_byte _ m i hi, Nat.div_div_eq_div_mul, ← Nat.pow_add, show k - m + (m - 1 - i) = k - 1 - i by omega]
theorem trimN_zero (t : ByteArray) : ∀ n i, trimN t n ≤ i → i < n → byteAt t i = 48
  | 0, i, _, h => by omega
  | n + 1, i, h1, h2 => by
    rw [trimN] at h1
    split at h1
    · rename_i h
      rcases Nat.lt_or_ge i n with h3 | h3
      · exact trimN_zero t n i h1 h3
      · have : i = n := by omega
        subst this; exact h
    · omega
theorem frac_dec {v : Nat} (h1 : 1 ≤ v) (h2 : v ≤ 99999) : ∃ m u, 1 ≤ m ∧ m ≤ 5 ∧ (decT v 5).extract 0 (trimN (decT v 5) (decT v 5).size) = decB m u ∧ u * 10 ^ (5 - m) = v := by
  rw [dec5 h2, decB_size]
  have hm := trimN_le (decB 5 v) 5
  have hz := trimN_zero (decB 5 v) 5
  generalize trimN (decB 5 v) 5 = m at *
  have hq : v % 10 ^ (5 - m) = 0 := digs_zero v _ fun i hi => by
    have := hz (4 - i) (by omega) (by omega)
    rw [decB_byte v 5 _ (by omega), show 5 - 1 - (4 - i) = i by omega] at this
    omega
  refine ⟨m, v / 10 ^ (5 - m), ?_, hm, dec_ext 5 v m hm, ?_⟩
  · rcases Nat.eq_zero_or_pos m with rfl | h
    · have : v % 100000 = 0 := hq
      omega
    · exact h
  · exact Nat.div_mul_cancel (Nat.dvd_of_mod_eq_zero hq)
theorem num_fmtS {a : Nat} (ha : a ≤ 2147483648) : numOf (fmtS ByteArray.empty a) = ((a : Int), true) ∧ headB (fmtS ByteArray.empty a) 45 = false := by
  obtain ⟨b1, b2, b3, b4⟩ := dl20 (n := a / 65536) (k := 1) (by omega) (by omega)
  have hj5 : dl 20 (a / 65536) 1 ≤ 5 := by
    rcases Nat.lt_or_ge 5 (dl 20 (a / 65536) 1) with h | h
    · exact absurd ⟨Nat.div_eq_of_lt (by show _ < 100000; omega), by decide⟩ (b4 5 h)
    · exact h
  have hd : decT (a / 65536) 1 = decB (dl 20 (a / 65536) 1) (a / 65536) := rfl
  unfold fmtS
  rw [hd]
  generalize dl 20 (a / 65536) 1 = j at *
  have hhead : ∀ t : ByteArray, byteAt t 0 = byteAt (decB j (a / 65536)) 0 → headB t 45 = false := fun t ht => by
    rw [decB_byte _ j 0 (by omega)] at ht
    simp only [headB, Bool.and_eq_false_iff, decide_eq_false_iff_not]
    right
    show ¬ byteAt t 0 = 45
    omega
  split
  · rename_i h0
    rw [ByteArray.empty_append]
    have hall := decB_dig j (a / 65536)
    have hn := numN_whole (t := decB j (a / 65536)) (by rw [decB_size]; exact hall) (by rw [decB_size]; omega) (by rw [decB_size]; omega)
    rw [decB_size, decB_val j (a / 65536) j (Nat.le_refl _), Nat.sub_self, Nat.pow_zero, Nat.div_one, Nat.mod_eq_of_lt (lt_of_div b1)] at hn
    have hh := hhead _ rfl
    refine ⟨?_, hh⟩
    rw [numOf, tailB, hh, if_neg (by simp), hn]
    simp only
    rw [if_neg (by omega)]
    simp; omega
  · rename_i h0
    obtain ⟨m, u, m1, m5, e, hu⟩ := frac_dec (v := (2 * (a % 65536) * 100000 + 65536) / 131072) (by omega) (by omega)
    rw [fracT, e, ByteArray.empty_append]
    have hlt : u < 10 ^ m := by
      have h5 : (10 : Nat) ^ m * 10 ^ (5 - m) = 100000 := by rw [← Nat.pow_add, show m + (5 - m) = 5 by omega]
      have hp : 0 < (10 : Nat) ^ (5 - m) := Nat.pow_pos (by decide)
      refine Nat.lt_of_mul_lt_mul_right (a := 10 ^ (5 - m)) ?_
      rw [h5, hu]; omega
    have hp := numOf_point (j := j) (n := m) (w := a / 65536) (f := u) b2 hj5 b1 m1 (by omega) hlt
    have h6 : u * 10 ^ (6 - m) = (2 * (a % 65536) * 100000 + 65536) / 131072 * 10 := by rw [show 6 - m = (5 - m) + 1 by omega, Nat.pow_succ, ← Nat.mul_assoc, hu]
    have h7 : ((u : Int) * 10 ^ (6 - m)) = (((2 * (a % 65536) * 100000 + 65536) / 131072 * 10 : Nat) : Int) := by exact_mod_cast h6
    have hr : ((((a / 65536 : Nat) : Int) * 1000000 + (u : Int) * 10 ^ (6 - m)) * 65536 + 500000) / 1000000 = (a : Int) := by
      rw [h7]; omega
    rw [hr, if_neg (by omega)] at hp
    refine ⟨hp, hhead _ ?_⟩
    rw [byteAt_app, if_pos (by rw [ByteArray.size_append, decB_size]; omega), byteAt_app, if_pos (by rw [decB_size]; omega)]
theorem fmtS_app (s : ByteArray) (a : Nat) : fmtS s a = s ++ fmtS ByteArray.empty a := by
  unfold fmtS
  split
  · rw [ByteArray.empty_append]
  · rw [ByteArray.empty_append, ByteArray.append_assoc, ByteArray.append_assoc, ByteArray.append_assoc]
theorem num_neg {t : ByteArray} {v : Int} (h : numOf t = (v, true)) (hh : headB t 45 = false) : numOf (minusT ++ t) = (-v, true) := by
  have hb : headB (minusT ++ t) 45 = true := by
    simp only [headB, Bool.and_eq_true, decide_eq_true_eq]
    refine ⟨by rw [ByteArray.size_append]; show 1 ≤ 1 + _; omega, ?_⟩
    rw [byteAt_app, if_pos (by decide)]; rfl
  have ht : tailB (minusT ++ t) 45 = t := by
    rw [tailB, hb, if_pos rfl]
    refine ByteArray.ext_getElem (by rw [ByteArray.size_extract, ByteArray.size_append]; have : minusT.size = 1 := rfl; omega) fun i hi hi' => ?_
    rw [ByteArray.getElem_extract, ByteArray.getElem_append_right (by show 1 ≤ _; omega)]
    congr 1
    show 1 + i - 1 = i
    omega
  have hn : numN t = some v ∧ ¬ 2147483648 < v := by
    rw [numOf, tailB, hh, if_neg (by simp)] at h
    cases hq : numN t with
    | none => rw [hq] at h; cases h
    | some u =>
      rw [hq] at h
      simp only at h
      split at h
      · cases h
      · rename_i hu
        simp at h
        subst h
        exact ⟨rfl, hu⟩
  rw [numOf, ht, hn.1, hb]
  simp only
  rw [if_neg hn.2]; simp
/-- what is formatted is read again -/
theorem num_fmt (n : Int) : numOf (fmtT n) = (clampI n, true) := by
  have hb : -2147483648 ≤ clampI n ∧ clampI n ≤ 2147483648 := by unfold clampI; omega
  rw [fmtT]
  generalize clampI n = x at *
  obtain ⟨h1, h2⟩ := num_fmtS (a := x.natAbs) (by omega)
  split
  · rename_i h
    rw [fmtS_app, num_neg h1 h2]
    congr 1; omega
  · rename_i h
    rw [h1]
    congr 1; omega
end Go.Proofs.YtafglmjadbplcaaDoor

/- The reference's checks: joints, robots. -/
namespace Go.Proofs.YtafglmjadbplcaaDoor
open Eng
set_option maxRecDepth 10000
attribute [local irreducible] FnOk loopW idxF retX arrF

theorem ref_isLink (r : Robot) (k : Int) : FnOk Tryd.prog F.ref6_isLink [Ro r, I k] [] 0 (Bo (linkOk r.joints.length k)) [] 0 := by
  refine fnOk tab mix G.ref6_isLink rfl rfl (by kernel_rfl) rfl rfl ?_
  (conv => whnf)
  repeat' ((conv => whnf); first | refine ask_m (fun h => ?_) (fun h => ?_) | refine ret0 ?_)
  all_goals exact ret_b (by first | (simp_all [linkOk]; done) | (simp_all [linkOk]; omega)) rfl
def betw (x a b : Int) : Bool := decide (a ≤ x) && decide (x ≤ b)
theorem ref_between (x a b : Int) : FnOk Tryd.prog F.ref6_between [I x, I a, I b] [] 0 (Bo (betw x a b)) [] 0 := by
  refine fnOk tab mix G.ref6_between rfl rfl (by kernel_rfl) rfl rfl ?_
  (conv => whnf)
  repeat' ((conv => whnf); first | refine ask_m (fun h => ?_) (fun h => ?_) | refine ret0 ?_)
  all_goals exact ret_b (by first | (simp_all [betw]; done) | (simp_all [betw]; omega)) rfl
def inX (m x : Int) : Bool := decide (-m ≤ x) && decide (x ≤ m)
theorem ref_Near (v : Vec) (m : Int) (hm : 0 ≤ m) (hm2 : m ≤ 4611686018427387904) : FnOk Tryd.prog F.ref6_Near [Ve v, I m] [] 0 (Bo (inV v m)) [] 0 := by
  refine fnOk tab mix G.ref6_Near rfl rfl (by kernel_rfl) rfl rfl ?_
  (conv => whnf)
  have wn : IntKind.i64.wrap (0 - m) = -m := by rw [w64] <;> omega
  have e : inV v m = (inX m v.x && inX m v.y && inX m v.z) := rfl
  refine loop_intro (fun k : Nat => ⟨[(1, I m), (2, .one (.vptr 0 0)), (5, I k)], [(0, .vars Y.Vec [.dv (.int .i64 v.x), .dv (.int .i64 v.y), .dv (.int .i64 v.z)])], 1⟩) (fun k => k ≤ 3 ∧ (1 ≤ k → inX m v.x = true) ∧ (2 ≤ k → inX m v.y = true) ∧ (3 ≤ k → inX m v.z = true)) (fun k => 3 - k) [] 0 [] ⟨by decide, by omega, by omega, by omega⟩ ⟨⟨rfl, rfl, rfl, trivial⟩, ⟨rfl, trivial⟩⟩ ?_
  rintro k ⟨hk, k1, k2, k3⟩
  rcases (show k = 0 ∨ k = 1 ∨ k = 2 ∨ k = 3 by omega) with rfl | rfl | rfl | rfl
  · (conv => whnf)
    refine ⟨by decide, ?_⟩
    (conv => whnf)
    rw [wn]
    refine ask_m (fun h => ?_) (fun h => ?_)
    · have h := of_decide_eq_true h
      (conv => whnf)
      refine ret0 ?_
      exact ret_b (by rw [e]; simp [inX]; omega) rfl
    · have h := of_decide_eq_false h
      (conv => whnf)
      refine ⟨by decide, ?_⟩
      (conv => whnf)
      refine ask_m (fun h2 => ?_) (fun h2 => ?_)
      · have h2 := of_decide_eq_true h2
        (conv => whnf)
        refine ret0 ?_
        exact ret_b (by rw [e]; simp [inX]; omega) rfl
      · have h2 := of_decide_eq_false h2
        (conv => whnf)
        exact ⟨1, [], ⟨by decide, fun _ => by simp [inX]; omega, by omega, by omega⟩, by omega, ⟨⟨rfl, rfl, rfl, trivial⟩, ⟨rfl, trivial⟩⟩⟩
  · (conv => whnf)
    refine ⟨by decide, ?_⟩
    (conv => whnf)
    rw [wn]
    refine ask_m (fun h => ?_) (fun h => ?_)
    · have h := of_decide_eq_true h
      (conv => whnf)
      refine ret0 ?_
      exact ret_b (by rw [e]; simp [inX]; omega) rfl
    · have h := of_decide_eq_false h
      (conv => whnf)
      refine ⟨by decide, ?_⟩
      (conv => whnf)
      refine ask_m (fun h2 => ?_) (fun h2 => ?_)
      · have h2 := of_decide_eq_true h2
        (conv => whnf)
        refine ret0 ?_
        exact ret_b (by rw [e]; simp [inX]; omega) rfl
      · have h2 := of_decide_eq_false h2
        (conv => whnf)
        exact ⟨2, [], ⟨by decide, fun _ => k1 (by decide), fun _ => by simp [inX]; omega, by omega⟩, by omega, ⟨⟨rfl, rfl, rfl, trivial⟩, ⟨rfl, trivial⟩⟩⟩
  · (conv => whnf)
    refine ⟨by decide, ?_⟩
    (conv => whnf)
    rw [wn]
    refine ask_m (fun h => ?_) (fun h => ?_)
    · have h := of_decide_eq_true h
      (conv => whnf)
      refine ret0 ?_
      exact ret_b (by rw [e]; simp [inX]; omega) rfl
    · have h := of_decide_eq_false h
      (conv => whnf)
      refine ⟨by decide, ?_⟩
      (conv => whnf)
      refine ask_m (fun h2 => ?_) (fun h2 => ?_)
      · have h2 := of_decide_eq_true h2
        (conv => whnf)
        refine ret0 ?_
        exact ret_b (by rw [e]; simp [inX]; omega) rfl
      · have h2 := of_decide_eq_false h2
        (conv => whnf)
        exact ⟨3, [], ⟨by decide, fun _ => k1 (by decide), fun _ => k2 (by decide), fun _ => by simp [inX]; omega⟩, by omega, ⟨⟨rfl, rfl, rfl, trivial⟩, ⟨rfl, trivial⟩⟩⟩
  · (conv => whnf)
    refine ret0 ?_
    exact ret_b (by rw [e, k1 (by decide), k2 (by decide), k3 (by decide)]; rfl) rfl
def reachR (k : Int) : Int := if k = 0 then 0 else if k = 1 ∨ k = 2 ∨ k = 3 then 524288 else 4194304
theorem reachR_eq {k : Int} (h0 : 0 ≤ k) (h6 : k ≤ 6) : reachR k = reach k := by
  rcases (show k = 0 ∨ k = 1 ∨ k = 2 ∨ k = 3 ∨ k = 4 ∨ k = 5 ∨ k = 6 by omega) with rfl | rfl | rfl | rfl | rfl | rfl | rfl <;> decide
theorem ref_reach (k : Int) : FnOk Tryd.prog F.ref6_reach [I k] [] 0 (I (reachR k)) [] 0 := by
  refine fnOk tab mix G.ref6_reach rfl rfl (by kernel_rfl) rfl rfl ?_
  (conv => whnf)
  repeat' ((conv => whnf); first | refine ask_m (fun h => ?_) (fun h => ?_) | refine ret0 ?_)
  all_goals exact ret_i (by first | (simp_all [reachR]; done) | (simp_all [reachR]; omega)) rfl
theorem find_le : ∀ {js : List Joint} {k b : Nat} {x : Joint}, js[k]? = some x → (b : Int) ≤ find js x.name b ∧ find js x.name b ≤ ((b + k : Nat) : Int)
  | [], _, _, _, h => by simp at h
  | j :: js, 0, b, x, h => by
    simp at h; subst h
    rw [find, if_pos rfl]; omega
  | j :: js, k + 1, b, x, h => by
    rw [find]; split
    · omega
    · have := find_le (js := js) (k := k) (b := b + 1) (by simpa using h)
      omega
theorem ref_checkJoint (js : List Joint) (i : Nat) (j : Joint) (hj : js[i]? = some j) (hl : js.length ≤ 4611686018427387904) : FnOk Tryd.prog F.ref6_checkJoint [.one (.dv (dJs js)), I i] [] 0 (I (jointErr js i j)) [] 0 := by
  refine fnOk tab mix G.ref6_checkJoint rfl rfl (by kernel_rfl) rfl rfl ?_
  (conv => whnf)
  have hil : i < js.length := (List.getElem?_eq_some_iff.1 hj).1
  refine idx_and (by omega) (by simpa using hj) ?_
  (conv => whnf)
  refine call_i (ref_Name j.name) ?_
  (conv => whnf)
  refine ask_m (fun hn => ?_) (fun hn => ?_)
  · have hn : nameOk j.name = false := by simpa using hn
    (conv => whnf)
    refine ret0 ?_
    exact ret_i (by rw [jointErr, if_pos (.inl hn)]) rfl
  have hn : nameOk j.name = true := by simpa using hn
  (conv => whnf)
  refine loop_intro (fun k : Nat => ⟨[(0, .one (.dv (dJs js))), (1, I i), (5, .one (.vptr 0 0)), (6, I k)], [(0, .vars Y.Joint [.dv (.str j.name), .dv (.int .i64 j.kind), .dv (.int .i64 j.parent), .dv (.int .i64 j.off.x), .dv (.int .i64 j.off.y), .dv (.int .i64 j.off.z), .dv (.int .i64 j.lo), .dv (.int .i64 j.hi), .dv (.int .i64 j.weight), .dv (.int .i64 j.speed), .dv (.int .i64 j.accel), .dv (.int .i64 j.torque)])], 1⟩)
    (fun k => k ≤ i ∧ ∀ (a : Nat) (x : Joint), a < k → js[a]? = some x → x.name ≠ j.name) (fun k => i - k) [] 0 [] ⟨Nat.zero_le _, fun a x h => by omega⟩ ⟨⟨rfl, rfl, rfl, rfl, trivial⟩, ⟨rfl, trivial⟩⟩ ?_
  rintro k ⟨hk, hne⟩
  (conv => whnf)
  refine ask_m (fun h => ?_) (fun h => ?_)
  · have hlt : k < i := by have := of_decide_eq_true h; omega
    obtain ⟨x, hx⟩ : ∃ x, js[k]? = some x := ⟨_, List.getElem?_eq_getElem (by omega)⟩
    have hkk : IntKind.i64.wrap ((k : Int) + 1) = ((k + 1 : Nat) : Int) := by rw [w64] <;> omega
    (conv => whnf)
    refine idx_and (by omega) (by simpa using hx) ?_
    (conv => whnf)
    refine ask_m (fun he => ?_) (fun he => ?_)
    · have he : x.name = j.name := of_decide_eq_true he
      have hf := find_le (b := 0) hx
      rw [he] at hf
      (conv => whnf)
      refine ret0 ?_
      exact ret_i (by rw [jointErr, if_pos (.inr (by omega))]) rfl
    · have he : ¬ x.name = j.name := of_decide_eq_false he
      (conv => whnf)
      refine ⟨k + 1, [], ⟨hlt, fun a y ha hy => ?_⟩, by omega, ⟨⟨rfl, rfl, rfl, eqI hkk, trivial⟩, ⟨rfl, trivial⟩⟩⟩
      rcases Nat.lt_or_ge a k with h' | h'
      · exact hne a y h' hy
      · obtain rfl : a = k := by omega
        rw [hx] at hy; injection hy with hy; subst hy; exact he
  · have hki : k = i := by have := of_decide_eq_false h; omega
    subst hki
    have hf := find_at (k := 0) hj fun a x ha hx => hne a x ha hx
    have hE : jointErr js k j = if j.kind < 0 ∨ 6 < j.kind then 803
      else if j.parent < -1 ∨ (k : Int) ≤ j.parent then 804
      else if inV j.off 4194304 = false then 805
      else if j.hi < j.lo ∨ j.lo < - reach j.kind ∨ reach j.kind < j.hi then 806
      else if (from1 j.weight 1024 && from1 j.speed 1048576 && from1 j.accel 1048576 && from1 j.torque 1099511627776) = false then 807
      else 0 := by rw [jointErr, if_neg (by rw [hn, hf]; simp)]
    rw [hE]
    have hrr : ¬ (j.kind < 0 ∨ 6 < j.kind) → reachR j.kind = reach j.kind := fun h => reachR_eq (by omega) (by omega)
    have hrc := reach_cases j.kind
    have wr : IntKind.i64.wrap (0 - reach j.kind) = - reach j.kind := by rw [w64] <;> omega
    have fb : ∀ x m, betw x 1 m = from1 x m := fun _ _ => rfl
    clear h hE hne
    (conv => whnf)
    refine ask_m (fun h1 => ?_) (fun h1 => ?_)
    · have h1 := of_decide_eq_true h1
      rw [if_pos (.inl h1)]
      (conv => whnf)
      refine ret0 ?_
      exact ret_i rfl rfl
    have h1 := of_decide_eq_false h1
    (conv => whnf)
    refine ask_m (fun h2 => ?_) (fun h2 => ?_)
    · have h2 := of_decide_eq_true h2
      rw [if_pos (.inr h2)]
      (conv => whnf)
      refine ret0 ?_
      exact ret_i rfl rfl
    have h2 := of_decide_eq_false h2
    have h12 : ¬ (j.kind < 0 ∨ 6 < j.kind) := by omega
    rw [if_neg h12]
    (conv => whnf)
    refine ask_m (fun h3 => ?_) (fun h3 => ?_)
    · have h3 := of_decide_eq_true h3
      rw [if_pos (.inl h3)]
      (conv => whnf)
      refine ret0 ?_
      exact ret_i rfl rfl
    have h3 := of_decide_eq_false h3
    (conv => whnf)
    refine ask_m (fun h4 => ?_) (fun h4 => ?_)
    · have h4 := of_decide_eq_true h4
      rw [if_pos (.inr h4)]
      (conv => whnf)
      refine ret0 ?_
      exact ret_i rfl rfl
    have h4 := of_decide_eq_false h4
    rw [if_neg (by omega)]
    (conv => whnf)
    refine call_i (ref_Near j.off 4194304 (by decide) (by decide)) ?_
    (conv => whnf)
    refine ask_m (fun h5 => ?_) (fun h5 => ?_)
    · have h5 : inV j.off 4194304 = false := by simpa using h5
      rw [if_pos h5]
      (conv => whnf)
      refine ret0 ?_
      exact ret_i rfl rfl
    have h5 : inV j.off 4194304 = true := by simpa using h5
    rw [if_neg (by rw [h5]; simp)]
    (conv => whnf)
    refine call_i (ref_reach j.kind) ?_
    (conv => whnf)
    rw [hrr h12]
    refine ask_m (fun h6 => ?_) (fun h6 => ?_)
    · have h6 := of_decide_eq_true h6
      rw [if_pos (.inl h6)]
      (conv => whnf)
      refine ret0 ?_
      exact ret_i rfl rfl
    have h6 := of_decide_eq_false h6
    (conv => whnf)
    rw [wr]
    refine ask_m (fun h7 => ?_) (fun h7 => ?_)
    · have h7 := of_decide_eq_true h7
      rw [if_pos (.inr (.inl h7))]
      (conv => whnf)
      refine ret0 ?_
      exact ret_i rfl rfl
    have h7 := of_decide_eq_false h7
    (conv => whnf)
    refine ask_m (fun h8 => ?_) (fun h8 => ?_)
    · have h8 := of_decide_eq_true h8
      rw [if_pos (.inr (.inr h8))]
      (conv => whnf)
      refine ret0 ?_
      exact ret_i rfl rfl
    have h8 := of_decide_eq_false h8
    rw [if_neg (by omega)]
    (conv => whnf)
    refine call_i (ref_between j.weight 1 1024) ?_
    (conv => whnf)
    rw [fb]
    refine ask_m (fun h9 => ?_) (fun h9 => ?_)
    · have h9 : from1 j.weight 1024 = false := by simpa using h9
      rw [if_pos (by rw [h9]; simp)]
      (conv => whnf)
      refine ret0 ?_
      exact ret_i rfl rfl
    have h9 : from1 j.weight 1024 = true := by simpa using h9
    (conv => whnf)
    refine call_i (ref_between j.speed 1 1048576) ?_
    (conv => whnf)
    rw [fb]
    refine ask_m (fun h10 => ?_) (fun h10 => ?_)
    · have h10 : from1 j.speed 1048576 = false := by simpa using h10
      rw [if_pos (by rw [h10]; simp)]
      (conv => whnf)
      refine ret0 ?_
      exact ret_i rfl rfl
    have h10 : from1 j.speed 1048576 = true := by simpa using h10
    (conv => whnf)
    refine call_i (ref_between j.accel 1 1048576) ?_
    (conv => whnf)
    rw [fb]
    refine ask_m (fun h11 => ?_) (fun h11 => ?_)
    · have h11 : from1 j.accel 1048576 = false := by simpa using h11
      rw [if_pos (by rw [h11]; simp)]
      (conv => whnf)
      refine ret0 ?_
      exact ret_i rfl rfl
    have h11 : from1 j.accel 1048576 = true := by simpa using h11
    (conv => whnf)
    refine call_i (ref_between j.torque 1 1099511627776) ?_
    (conv => whnf)
    rw [fb]
    refine ask_m (fun h13 => ?_) (fun h13 => ?_)
    · have h13 : from1 j.torque 1099511627776 = false := by simpa using h13
      rw [if_pos (by rw [h13]; simp)]
      (conv => whnf)
      refine ret0 ?_
      exact ret_i rfl rfl
    have h13 : from1 j.torque 1099511627776 = true := by simpa using h13
    rw [h9, h10, h11, h13, if_neg (by simp)]
    (conv => whnf)
    refine ret0 ?_
    exact ret_i rfl rfl
end Go.Proofs.YtafglmjadbplcaaDoor

/- The reference's checks: robots, scenes. -/
namespace Go.Proofs.YtafglmjadbplcaaDoor
open Eng
set_option maxRecDepth 10000
attribute [local irreducible] FnOk loopW idxF retX arrF

theorem ref_CheckRobot (r : Robot) (hj : r.joints.length ≤ 4611686018427387904) (hm : r.masses.length ≤ 4611686018427387904) : FnOk Tryd.prog F.ref6_CheckRobot [Ro r] [] 0 (I (checkRobot r)) [] 0 := by
  refine fnOk tab mix G.ref6_CheckRobot rfl rfl (by kernel_rfl) rfl rfl ?_
  (conv => whnf)
  refine ask_m (fun h => ?_) (fun h => ?_)
  · have h : r.joints.length = 0 := by have := of_decide_eq_true h; simp only [List.length_map] at this; omega
    (conv => whnf)
    refine ret0 ?_
    exact ret_i (by unfold checkRobot; rw [if_pos (.inl h)]) rfl
  have h1 : ¬ r.joints.length = 0 := by have := of_decide_eq_false h; simp only [List.length_map] at this; omega
  (conv => whnf)
  refine ask_m (fun h => ?_) (fun h => ?_)
  · have h : 10 < r.joints.length := by have := of_decide_eq_true h; simp only [List.length_map] at this; omega
    (conv => whnf)
    refine ret0 ?_
    exact ret_i (by unfold checkRobot; rw [if_pos (.inr h)]) rfl
  have h2 : ¬ 10 < r.joints.length := by have := of_decide_eq_false h; simp only [List.length_map] at this; omega
  have e : checkRobot r = if jointsErr r.joints 0 r.joints ≠ 0 then jointsErr r.joints 0 r.joints
    else if 32 < r.masses.length ∨ r.masses.all (massOk r.joints.length) = false then 808 else 0 := by unfold checkRobot; rw [if_neg (by omega)]
  rw [e]
  (conv => whnf)
  refine loop_intro (fun k : Nat => ⟨[(1, .one (.vptr 0 0)), (3, I k)], [(0, bRo r)], 1⟩) (fun k => k ≤ r.joints.length ∧ jointsErr r.joints 0 r.joints = jointsErr r.joints k (r.joints.drop k)) (fun k => r.joints.length - k) [] 0 [] ⟨Nat.zero_le _, rfl⟩ ⟨⟨rfl, rfl, trivial⟩, ⟨rfl, trivial⟩⟩ ?_
  rintro k ⟨hk, hE⟩
  (conv => whnf)
  refine ask_m (fun h => ?_) (fun h => ?_)
  · have hlt : k < r.joints.length := by simp at h; omega
    obtain ⟨j, hj'⟩ : ∃ j, r.joints[k]? = some j := ⟨_, List.getElem?_eq_getElem hlt⟩
    have hkk : IntKind.i64.wrap ((k : Int) + 1) = ((k + 1 : Nat) : Int) := by rw [w64] <;> omega
    rw [drop_cons hj', jointsErr] at hE
    (conv => whnf)
    refine call_i (ref_checkJoint r.joints k j hj' hj) ?_
    (conv => whnf)
    refine ask_m (fun he => ?_) (fun he => ?_)
    · have he : ¬ jointErr r.joints k j = 0 := by simpa using he
      rw [if_neg he] at hE
      (conv => whnf)
      refine ret0 ?_
      exact ret_i (by rw [hE, if_pos he]) rfl
    · have he : jointErr r.joints k j = 0 := by simpa using he
      rw [if_pos he] at hE
      (conv => whnf)
      exact ⟨k + 1, [], ⟨hlt, hE⟩, by omega, ⟨⟨rfl, eqI hkk, trivial⟩, ⟨rfl, trivial⟩⟩⟩
  · have hk : k = r.joints.length := by simp at h; omega
    subst hk
    rw [List.drop_length, jointsErr] at hE
    rw [hE, if_neg (by simp)]
    (conv => whnf)
    refine ask_m (fun h3 => ?_) (fun h3 => ?_)
    · have h3 : 32 < r.masses.length := by have := of_decide_eq_true h3; simp only [List.length_map] at this; omega
      rw [if_pos (.inl h3)]
      (conv => whnf)
      refine ret0 ?_
      exact ret_i rfl rfl
    have h3 : ¬ 32 < r.masses.length := by have := of_decide_eq_false h3; simp only [List.length_map] at this; omega
    (conv => whnf)
    refine loop_intro (fun k : Nat => ⟨[(1, .one (.vptr 0 0)), (5, I k)], [(0, bRo r)], 1⟩) (fun k => k ≤ r.masses.length ∧ (r.masses.take k).all (massOk r.joints.length) = true) (fun k => r.masses.length - k) [] 0 [] ⟨Nat.zero_le _, rfl⟩ ⟨⟨rfl, rfl, trivial⟩, ⟨rfl, trivial⟩⟩ ?_
    rintro k ⟨hk, hall⟩
    (conv => whnf)
    refine ask_m (fun h4 => ?_) (fun h4 => ?_)
    · have hlt : k < r.masses.length := by simp at h4; omega
      obtain ⟨m, hm'⟩ : ∃ j, r.masses[k]? = some j := ⟨_, List.getElem?_eq_getElem hlt⟩
      have hkk : IntKind.i64.wrap ((k : Int) + 1) = ((k + 1 : Nat) : Int) := by rw [w64] <;> omega
      have bad : massOk r.joints.length m = false → (if 32 < r.masses.length ∨ r.masses.all (massOk r.joints.length) = false then (808 : Int) else 0) = 808 := fun h => by rw [if_pos (.inr (all_not hm' h))]
      have hM : massOk r.joints.length m = (decide (0 ≤ m.link) && decide (m.link < r.joints.length) && betw m.mass 1 65536 && inV m.point 4194304) := rfl
      (conv => whnf)
      refine idx_and (by omega) (by simpa using hm') ?_
      (conv => whnf)
      refine ask_m (fun a1 => ?_) (fun a1 => ?_)
      · have a1 := of_decide_eq_true a1
        rw [bad (by rw [hM, decide_eq_false (by omega)]; simp)]
        (conv => whnf)
        refine ret0 ?_
        exact ret_i rfl rfl
      have a1 := of_decide_eq_false a1
      (conv => whnf)
      rw [List.length_map]
      refine ask_m (fun a2 => ?_) (fun a2 => ?_)
      · have a2 := of_decide_eq_true a2
        rw [bad (by rw [hM, decide_eq_false (p := m.link < _) (by omega)]; simp)]
        (conv => whnf)
        refine ret0 ?_
        exact ret_i rfl rfl
      have a2 := of_decide_eq_false a2
      (conv => whnf)
      refine call_i (ref_between m.mass 1 65536) ?_
      (conv => whnf)
      refine ask_m (fun a3 => ?_) (fun a3 => ?_)
      · have a3 : betw m.mass 1 65536 = false := by simpa using a3
        rw [bad (by rw [hM, a3]; simp)]
        (conv => whnf)
        refine ret0 ?_
        exact ret_i rfl rfl
      have a3 : betw m.mass 1 65536 = true := by simpa using a3
      (conv => whnf)
      refine call_i (ref_Near m.point 4194304 (by decide) (by decide)) ?_
      (conv => whnf)
      refine ask_m (fun a4 => ?_) (fun a4 => ?_)
      · have a4 : inV m.point 4194304 = false := by simpa using a4
        rw [bad (by rw [hM, a4]; simp)]
        (conv => whnf)
        refine ret0 ?_
        exact ret_i rfl rfl
      have a4 : inV m.point 4194304 = true := by simpa using a4
      (conv => whnf)
      exact ⟨k + 1, [], ⟨hlt, all_take hall hm' (by rw [hM, a3, a4, decide_eq_true (by omega), decide_eq_true (p := m.link < _) (by omega)]; rfl)⟩, by omega, ⟨⟨rfl, eqI hkk, trivial⟩, ⟨rfl, trivial⟩⟩⟩
    · have hk : k = r.masses.length := by simp at h4; omega
      subst hk
      rw [List.take_length] at hall
      rw [hall, if_neg (by simp; omega)]
      (conv => whnf)
      refine ret0 ?_
      exact ret_i rfl rfl
theorem ref_CheckScene (s : Scene) (hs : small s) : FnOk Tryd.prog F.ref6_CheckScene [Sc s] [] 0 (I (checkScene s)) [] 0 := by
  refine fnOk tab mix G.ref6_CheckScene rfl rfl (by kernel_rfl) rfl rfl ?_
  (conv => whnf)
  obtain ⟨s1, s2, s3, s4, s5⟩ := hs
  refine call_i (ref_CheckRobot s.robot s1 s2) ?_
  (conv => whnf)
  refine ask_m (fun h => ?_) (fun h => ?_)
  · have h : ¬ checkRobot s.robot = 0 := by simpa using h
    (conv => whnf)
    refine ret0 ?_
    exact ret_i (by unfold checkScene; rw [if_pos h]) rfl
  have h0 : checkRobot s.robot = 0 := by simpa using h
  have e : checkScene s = if 24 < s.shapes.length then 901
    else if shapesErr s.robot.joints.length s.shapes ≠ 0 then shapesErr s.robot.joints.length s.shapes
    else if 64 < s.skips.length then 903
    else if (s.skips.all (skipOk s.robot.joints.length)) = false then 903
    else 0 := by unfold checkScene; rw [if_neg (by rw [h0]; simp)]; rfl
  rw [e]
  clear e
  (conv => whnf)
  refine ask_m (fun h1 => ?_) (fun h1 => ?_)
  · have h1 : 24 < s.shapes.length := by have := of_decide_eq_true h1; simp only [List.length_map] at this; omega
    rw [if_pos h1]
    (conv => whnf)
    refine ret0 ?_
    exact ret_i rfl rfl
  have h1 : ¬ 24 < s.shapes.length := by have := of_decide_eq_false h1; simp only [List.length_map] at this; omega
  rw [if_neg h1]
  (conv => whnf)
  refine loop_intro (fun k : Nat => ⟨[(1, .one (.vptr 0 0)), (4, I k)], [(0, bSc s)], 1⟩) (fun k => k ≤ s.shapes.length ∧ shapesErr s.robot.joints.length s.shapes = shapesErr s.robot.joints.length (s.shapes.drop k)) (fun k => s.shapes.length - k) [] 0 [] ⟨Nat.zero_le _, rfl⟩ ⟨⟨rfl, rfl, trivial⟩, ⟨rfl, trivial⟩⟩ ?_
  rintro k ⟨hk, hE⟩
  (conv => whnf)
  refine ask_m (fun h2 => ?_) (fun h2 => ?_)
  · have hlt : k < s.shapes.length := by simp at h2; omega
    obtain ⟨x, hx⟩ : ∃ j, s.shapes[k]? = some j := ⟨_, List.getElem?_eq_getElem hlt⟩
    have hkk : IntKind.i64.wrap ((k : Int) + 1) = ((k + 1 : Nat) : Int) := by rw [w64] <;> omega
    have hxp := s5 x (List.mem_of_getElem? hx)
    rw [drop_cons hx, shapesErr] at hE
    have e1 : (linkOk s.robot.joints.length x.link = false ∨ x.radius < 1 ∨ 1048576 < x.radius ∨ x.points.length < 1 ∨ 8 < x.points.length) → shapesErr s.robot.joints.length s.shapes = 902 := fun h => by
      have : shapeErr s.robot.joints.length x = 902 := by rw [shapeErr, if_pos h]
      rw [hE, this, if_neg (by decide)]
    have e2 : ¬ (linkOk s.robot.joints.length x.link = false ∨ x.radius < 1 ∨ 1048576 < x.radius ∨ x.points.length < 1 ∨ 8 < x.points.length) → x.points.all (inV · 4194304) = false → shapesErr s.robot.joints.length s.shapes = 805 := fun h h' => by
      have : shapeErr s.robot.joints.length x = 805 := by rw [shapeErr, if_neg h, if_pos h']
      rw [hE, this, if_neg (by decide)]
    have e3 : ¬ (linkOk s.robot.joints.length x.link = false ∨ x.radius < 1 ∨ 1048576 < x.radius ∨ x.points.length < 1 ∨ 8 < x.points.length) → x.points.all (inV · 4194304) = true → shapesErr s.robot.joints.length s.shapes = shapesErr s.robot.joints.length (s.shapes.drop (k + 1)) := fun h h' => by
      have : shapeErr s.robot.joints.length x = 0 := by rw [shapeErr, if_neg h, if_neg (by rw [h']; simp)]
      rw [hE, this, if_pos rfl]
    (conv => whnf)
    refine idx_and (by omega) (by simpa using hx) ?_
    (conv => whnf)
    refine call_i (ref_isLink s.robot x.link) ?_
    (conv => whnf)
    refine ask_m (fun a1 => ?_) (fun a1 => ?_)
    · have a1 : linkOk s.robot.joints.length x.link = false := by simpa using a1
      rw [e1 (.inl a1), if_pos (by decide)]
      (conv => whnf)
      refine ret0 ?_
      exact ret_i rfl rfl
    have a1 : linkOk s.robot.joints.length x.link = true := by simpa using a1
    (conv => whnf)
    refine call_i (ref_between x.radius 1 1048576) ?_
    (conv => whnf)
    refine ask_m (fun a2 => ?_) (fun a2 => ?_)
    · have a2 : betw x.radius 1 1048576 = false := by simpa using a2
      rw [e1 (by simp [betw] at a2; omega), if_pos (by decide)]
      (conv => whnf)
      refine ret0 ?_
      exact ret_i rfl rfl
    have a2 : betw x.radius 1 1048576 = true := by simpa using a2
    simp [betw] at a2
    (conv => whnf)
    refine ask_m (fun a3 => ?_) (fun a3 => ?_)
    · have a3 : x.points.length < 1 := by have := of_decide_eq_true a3; simp only [List.length_map] at this; omega
      rw [e1 (by omega), if_pos (by decide)]
      (conv => whnf)
      refine ret0 ?_
      exact ret_i rfl rfl
    have a3 : ¬ x.points.length < 1 := by have := of_decide_eq_false a3; simp only [List.length_map] at this; omega
    (conv => whnf)
    refine ask_m (fun a4 => ?_) (fun a4 => ?_)
    · have a4 : 8 < x.points.length := by have := of_decide_eq_true a4; simp only [List.length_map] at this; omega
      rw [e1 (by omega), if_pos (by decide)]
      (conv => whnf)
      refine ret0 ?_
      exact ret_i rfl rfl
    have a4 : ¬ 8 < x.points.length := by have := of_decide_eq_false a4; simp only [List.length_map] at this; omega
    have hno : ¬ (linkOk s.robot.joints.length x.link = false ∨ x.radius < 1 ∨ 1048576 < x.radius ∨ x.points.length < 1 ∨ 8 < x.points.length) := by rw [a1]; rintro (h | h | h | h | h) <;> first | contradiction | omega
    (conv => whnf)
    refine loop_intro (fun c : Nat => ⟨[(1, .one (.vptr 0 0)), (4, I k), (5, .one (.vptr 1 0)), (6, I c)], [(0, bSc s), (1, .vars Y.Shape [.dv (.int .i64 x.link), .dv (.int .i64 x.radius), .dv (dVs x.points)])], 2⟩) (fun c => c ≤ x.points.length ∧ (x.points.take c).all (inV · 4194304) = true) (fun c => x.points.length - c) [] 0 [] ⟨Nat.zero_le _, rfl⟩ ⟨⟨rfl, rfl, rfl, rfl, trivial⟩, ⟨rfl, rfl, trivial⟩⟩ ?_
    rintro c ⟨hc, hall⟩
    (conv => whnf)
    refine ask_m (fun a5 => ?_) (fun a5 => ?_)
    · have hcl : c < x.points.length := by simp at a5; omega
      obtain ⟨p, hp⟩ : ∃ j, x.points[c]? = some j := ⟨_, List.getElem?_eq_getElem hcl⟩
      have hcc : IntKind.i64.wrap ((c : Int) + 1) = ((c + 1 : Nat) : Int) := by rw [w64] <;> omega
      (conv => whnf)
      refine idx_and (by omega) (by simpa using hp) ?_
      (conv => whnf)
      refine call_i (ref_Near p 4194304 (by decide) (by decide)) ?_
      (conv => whnf)
      refine ask_m (fun a6 => ?_) (fun a6 => ?_)
      · have a6 : inV p 4194304 = false := by simpa using a6
        rw [e2 hno (all_not hp a6), if_pos (by decide)]
        (conv => whnf)
        refine ret0 ?_
        exact ret_i rfl rfl
      · have a6 : inV p 4194304 = true := by simpa using a6
        (conv => whnf)
        exact ⟨c + 1, [], ⟨hcl, all_take hall hp a6⟩, by omega, ⟨⟨rfl, rfl, rfl, eqI hcc, trivial⟩, ⟨rfl, rfl, trivial⟩⟩⟩
    · have hc : c = x.points.length := by simp at a5; omega
      subst hc
      rw [List.take_length] at hall
      (conv => whnf)
      exact ⟨k + 1, [], ⟨hlt, e3 hno hall⟩, by omega, ⟨⟨rfl, eqI hkk, trivial⟩, ⟨rfl, trivial⟩⟩⟩
  · have hk : k = s.shapes.length := by simp at h2; omega
    subst hk
    rw [List.drop_length, shapesErr] at hE
    rw [hE, if_neg (by simp)]
    (conv => whnf)
    refine ask_m (fun h3 => ?_) (fun h3 => ?_)
    · have h3 : 64 < s.skips.length := by have := of_decide_eq_true h3; simp only [List.length_map] at this; omega
      rw [if_pos h3]
      (conv => whnf)
      refine ret0 ?_
      exact ret_i rfl rfl
    have h3 : ¬ 64 < s.skips.length := by have := of_decide_eq_false h3; simp only [List.length_map] at this; omega
    rw [if_neg h3]
    (conv => whnf)
    refine loop_intro (fun k : Nat => ⟨[(1, .one (.vptr 0 0)), (7, I k)], [(0, bSc s)], 1⟩) (fun k => k ≤ s.skips.length ∧ (s.skips.take k).all (skipOk s.robot.joints.length) = true) (fun k => s.skips.length - k) [] 0 [] ⟨Nat.zero_le _, rfl⟩ ⟨⟨rfl, rfl, trivial⟩, ⟨rfl, trivial⟩⟩ ?_
    rintro k ⟨hk, hall⟩
    (conv => whnf)
    refine ask_m (fun h4 => ?_) (fun h4 => ?_)
    · have hlt : k < s.skips.length := by simp at h4; omega
      obtain ⟨m, hm'⟩ : ∃ j, s.skips[k]? = some j := ⟨_, List.getElem?_eq_getElem hlt⟩
      have hkk : IntKind.i64.wrap ((k : Int) + 1) = ((k + 1 : Nat) : Int) := by rw [w64] <;> omega
      (conv => whnf)
      refine idx_and (by omega) (by simpa using hm') ?_
      (conv => whnf)
      refine call_i (ref_isLink s.robot m.a) ?_
      (conv => whnf)
      refine ask_m (fun a1 => ?_) (fun a1 => ?_)
      · have a1 : linkOk s.robot.joints.length m.a = false := by simpa using a1
        rw [if_pos (all_not hm' (by simp [skipOk, a1]))]
        (conv => whnf)
        refine ret0 ?_
        exact ret_i rfl rfl
      have a1 : linkOk s.robot.joints.length m.a = true := by simpa using a1
      (conv => whnf)
      refine idx_and (by omega) (by simpa using hm') ?_
      (conv => whnf)
      refine call_i (ref_isLink s.robot m.b) ?_
      (conv => whnf)
      refine ask_m (fun a2 => ?_) (fun a2 => ?_)
      · have a2 : linkOk s.robot.joints.length m.b = false := by simpa using a2
        rw [if_pos (all_not hm' (by simp [skipOk, a2]))]
        (conv => whnf)
        refine ret0 ?_
        exact ret_i rfl rfl
      · have a2 : linkOk s.robot.joints.length m.b = true := by simpa using a2
        (conv => whnf)
        exact ⟨k + 1, [], ⟨hlt, all_take hall hm' (by simp [skipOk, a1, a2])⟩, by omega, ⟨⟨rfl, eqI hkk, trivial⟩, ⟨rfl, trivial⟩⟩⟩
    · have hk : k = s.skips.length := by simp at h4; omega
      subst hk
      rw [List.take_length] at hall
      rw [hall, if_neg (by simp)]
      (conv => whnf)
      refine ret0 ?_
      exact ret_i rfl rfl
end Go.Proofs.YtafglmjadbplcaaDoor

/- The reference's WriteRobot and WriteScene. -/
namespace Go.Proofs.YtafglmjadbplcaaDoor
open Eng
set_option maxRecDepth 10000
attribute [local irreducible] FnOk loopW idxF retX arrF

def jB (js : List Joint) (j : Joint) : List (ByteArray × List ByteArray) := [(wJoint, [j.name, kindN j.kind, linkN js j.parent, fmtT j.off.x, fmtT j.off.y, fmtT j.off.z, fmtT j.lo, fmtT j.hi, decT j.weight.toNat 1]), (wLimit, [j.name, decT j.speed.toNat 1, decT j.accel.toNat 1, decT j.torque.toNat 1])]
def mB (js : List Joint) (m : Mass) : ByteArray × List ByteArray := (wMass, [linkN js m.link, fmtT m.mass, fmtT m.point.x, fmtT m.point.y, fmtT m.point.z])
def ptB (p : Vec) : List ByteArray := [fmtT p.x, fmtT p.y, fmtT p.z]
def shB (js : List Joint) (x : Shape) : ByteArray × List ByteArray := (wShape, linkN js x.link :: fmtT x.radius :: x.points.flatMap ptB)
def skB (js : List Joint) (k : Skip) : ByteArray × List ByteArray := (wSkip, [linkN js k.a, linkN js k.b])
def robB (r : Robot) : List (ByteArray × List ByteArray) := r.joints.flatMap (jB r.joints) ++ r.masses.map (mB r.joints)
def scB (s : Scene) : List (ByteArray × List ByteArray) := (robB s.robot ++ s.shapes.map (shB s.robot.joints)) ++ s.skips.map (skB s.robot.joints)
def writeRobot (r : Robot) : List Stmt := if checkRobot r = 0 then numb 0 (robB r) else []
def writeScene (s : Scene) : List Stmt := if checkScene s = 0 then numb 0 (scB s) else []
theorem jB_len (js l : List Joint) : (l.flatMap (jB js)).length = 2 * l.length := by
  induction l with
  | nil => rfl
  | cons j l ih => rw [List.flatMap_cons, List.length_append, ih, List.length_cons]; show 2 + _ = _; omega
theorem ref_DecimalI (n : Int) (h0 : 0 ≤ n) (h1 : n ≤ 9223372036854775807) : FnOk Tryd.prog F.ref6_Decimal [I n, I 1] [] 0 (Tx (decT n.toNat 1)) [] 0 := by
  obtain ⟨k, rfl⟩ : ∃ k : Nat, n = k := ⟨n.toNat, by omega⟩
  exact ref_DecimalT k 1 (by omega) (by omega)
theorem ref_WriteRobot (r : Robot) (hj : r.joints.length ≤ 4611686018427387904) (hm : r.masses.length ≤ 4611686018427387904) : FnOk Tryd.prog F.ref6_WriteRobot [Ro r] [] 0 (.one (.row 0)) [(0, .rows Y.Statement 3 ((writeRobot r).map encSt))] 1 := by
  refine fnOk tab mix G.ref6_WriteRobot rfl rfl (by kernel_rfl) rfl rfl ?_
  (conv => whnf)
  refine call_i (ref_CheckRobot r hj hm) ?_
  (conv => whnf)
  refine ask_m (fun h => ?_) (fun h => ?_)
  · have h : ¬ checkRobot r = 0 := by simpa using h
    rw [writeRobot, if_neg h]
    (conv => whnf)
    refine retO [.own 2 Y.Statement 3] ?_
    (conv => whnf)
    exact ⟨[(0, 1)], ⟨rfl, trivial⟩, ⟨rfl, trivial⟩⟩
  have h : checkRobot r = 0 := by simpa using h
  obtain ⟨g1, g2, g3, g4⟩ := robot_facts h
  rw [writeRobot, if_pos h]
  (conv => whnf)
  refine loop_intro (fun k : Nat => ⟨[(1, .one (.vptr 0 0)), (3, .one (.row 1)), (4, I k)], [(0, bRo r), (1, .rows Y.Statement 3 ((numb 0 ((r.joints.take k).flatMap (jB r.joints))).map encSt))], 2⟩) (fun k => k ≤ r.joints.length) (fun k => r.joints.length - k) [.own 3 Y.Statement 3] 0 [] (Nat.zero_le _) ⟨⟨rfl, rfl, rfl, trivial⟩, ⟨rfl, rfl, trivial⟩⟩ ?_
  rintro k hk
  have hkk : IntKind.i64.wrap ((k : Int) + 1) = ((k + 1 : Nat) : Int) := by rw [w64] <;> omega
  (conv => whnf)
  refine ask_m (fun hlt => ?_) (fun hlt => ?_)
  · have hlt : k < r.joints.length := by simpa using hlt
    obtain ⟨j, hjk⟩ : ∃ j, r.joints[k]? = some j := ⟨_, List.getElem?_eq_getElem hlt⟩
    obtain ⟨n1, ⟨n2, n3⟩, ⟨n4, n5⟩, n6, n7, n8⟩ := g2 k j hjk
    simp only [Bool.and_eq_true] at n8
    obtain ⟨⟨⟨c1, c2⟩, c3⟩, c4⟩ := n8
    have c1 := from1_bd c1
    have c2 := from1_bd c2
    have c3 := from1_bd c3
    have c4 := from1_bd c4
    have e1 : IntKind.i64.wrap (IntKind.i64.wrap (2 * (k : Int)) + 1) = 2 * (k : Int) + 1 := by rw [w64 (x := 2 * (k : Int)) (by omega) (by omega), w64 (by omega) (by omega)]
    have e2 : IntKind.i64.wrap (IntKind.i64.wrap (2 * (k : Int)) + 2) = 2 * (k : Int) + 2 := by rw [w64 (x := 2 * (k : Int)) (by omega) (by omega), w64 (by omega) (by omega)]
    have hbl : ((r.joints.take k).flatMap (jB r.joints)).length = 2 * k := by rw [jB_len, List.length_take]; omega
    have hnl : ((numb 0 ((r.joints.take k).flatMap (jB r.joints))).map encSt).length = 2 * k := by rw [List.length_map, numb_len, hbl]
    have hfin : (numb 0 ((r.joints.take (k + 1)).flatMap (jB r.joints))).map encSt = ((numb 0 ((r.joints.take k).flatMap (jB r.joints))).map encSt ++ [[.int .i64 (2 * (k : Int) + 1), .str wJoint, .lst 1 ([[.str j.name], [.str (kindN j.kind)], [.str (linkN r.joints j.parent)]] ++ (([j.off.x, j.off.y, j.off.z, j.lo, j.hi].map fmtT).map encA) ++ [[.str (decT j.weight.toNat 1)]])]]) ++ [[.int .i64 (2 * (k : Int) + 2), .str wLimit, .lst 1 [[.str j.name], [.str (decT j.speed.toNat 1)], [.str (decT j.accel.toNat 1)], [.str (decT j.torque.toNat 1)]]]] := by
      rw [flat_take (jB r.joints) hjk, numb_app, List.map_append, Nat.zero_add, hbl, List.append_assoc]
      congr 1
    generalize (numb 0 ((r.joints.take k).flatMap (jB r.joints))).map encSt = rows at hnl hfin ⊢
    (conv => whnf)
    refine idx_and (by omega) (by simpa using hjk) ?_
    (conv => whnf)
    refine call_i (ref_kindName j.kind n2 n3) ?_
    (conv => whnf)
    refine call_i (ref_linkName r j.parent n4 (by omega)) ?_
    (conv => whnf)
    refine ⟨⟨by decide, by decide⟩, ?_⟩
    (conv => whnf)
    refine ⟨⟨by decide, by decide⟩, ?_⟩
    (conv => whnf)
    refine ⟨⟨by decide, by decide⟩, ?_⟩
    (conv => whnf)
    refine call_i (ref_written [j.off.x, j.off.y, j.off.z, j.lo, j.hi] (by simp)) ?_
    (conv => whnf)
    refine ⟨⟨by simp, by simp⟩, ?_⟩
    (conv => whnf)
    refine call_i (ref_DecimalI j.weight (by omega) (by omega)) ?_
    (conv => whnf)
    refine ⟨⟨by simp, by simp⟩, ?_⟩
    (conv => whnf)
    refine ⟨⟨by simp; omega, by simp; omega⟩, ?_⟩
    (conv => whnf)
    refine call_i (ref_DecimalI j.speed (by omega) (by omega)) ?_
    (conv => whnf)
    refine call_i (ref_DecimalI j.accel (by omega) (by omega)) ?_
    (conv => whnf)
    refine call_i (ref_DecimalI j.torque (by omega) (by omega)) ?_
    (conv => whnf)
    refine ⟨⟨by simp; omega, by simp; omega⟩, ?_⟩
    (conv => whnf)
    exact ⟨k + 1, [(1, 12)], hlt, by omega, ⟨⟨rfl, rfl, eqI hkk, trivial⟩, ⟨rfl, rows_eq (by rw [hfin, e1, e2]; rfl), trivial⟩⟩⟩
  · have hk : k = r.joints.length := by simp at hlt; omega
    subst hk
    rw [List.take_length]
    have hbl : (r.joints.flatMap (jB r.joints)).length = 2 * r.joints.length := jB_len _ _
    rw [robB]
    generalize r.joints.flatMap (jB r.joints) = B at *
    (conv => whnf)
    refine loop_intro (fun k : Nat => ⟨[(1, .one (.vptr 0 0)), (3, .one (.row 1)), (7, I k)], [(0, bRo r), (1, .rows Y.Statement 3 ((numb 0 (B ++ (r.masses.take k).map (mB r.joints))).map encSt))], 2⟩) (fun k => k ≤ r.masses.length) (fun k => r.masses.length - k) [] 0 [] (Nat.zero_le _) ⟨⟨rfl, rfl, rfl, trivial⟩, ⟨rfl, rows_eq (by simp), trivial⟩⟩ ?_
    rintro k hk
    have hkk : IntKind.i64.wrap ((k : Int) + 1) = ((k + 1 : Nat) : Int) := by rw [w64] <;> omega
    (conv => whnf)
    refine ask_m (fun hlt => ?_) (fun hlt => ?_)
    · have hlt : k < r.masses.length := by simpa using hlt
      obtain ⟨m, hmk⟩ : ∃ m, r.masses[k]? = some m := ⟨_, List.getElem?_eq_getElem hlt⟩
      have hok := g4 m (List.mem_of_getElem? hmk)
      simp only [massOk, Bool.and_eq_true, decide_eq_true_eq] at hok
      have hfin : (numb 0 (B ++ (r.masses.take (k + 1)).map (mB r.joints))).map encSt = (numb 0 (B ++ (r.masses.take k).map (mB r.joints))).map encSt ++ [[.int .i64 ((2 * r.joints.length + k : Nat) + 1), .str wMass, .lst 1 ([[.str (linkN r.joints m.link)]] ++ (([m.mass, m.point.x, m.point.y, m.point.z].map fmtT).map encA))]] := by
        rw [map_take1 (mB r.joints) hmk, ← List.append_assoc, mB, numb_snoc]
        simp [encA, hbl]; omega
      have hnl : ((numb 0 (B ++ (r.masses.take k).map (mB r.joints))).map encSt).length = 2 * r.joints.length + k := by rw [List.length_map, numb_len, List.length_append, hbl, List.length_map, List.length_take]; omega
      generalize (numb 0 (B ++ (r.masses.take k).map (mB r.joints))).map encSt = rows at hnl hfin ⊢
      have e1 : IntKind.i64.wrap ((rows.length : Int) + 1) = ((2 * r.joints.length + k : Nat) : Int) + 1 := by rw [hnl, w64] <;> omega
      (conv => whnf)
      refine idx_and (by omega) (by simpa using hmk) ?_
      (conv => whnf)
      refine call_i (ref_linkName r m.link (by omega) (by omega)) ?_
      (conv => whnf)
      refine ⟨⟨by decide, by decide⟩, ?_⟩
      (conv => whnf)
      refine ⟨⟨by decide, by decide⟩, ?_⟩
      (conv => whnf)
      refine ⟨⟨by decide, by decide⟩, ?_⟩
      (conv => whnf)
      refine call_i (ref_written [m.mass, m.point.x, m.point.y, m.point.z] (by simp)) ?_
      (conv => whnf)
      refine ⟨⟨by simp, by simp⟩, ?_⟩
      (conv => whnf)
      refine ⟨⟨by simp; omega, by simp; omega⟩, ?_⟩
      (conv => whnf)
      exact ⟨k + 1, [(1, 7)], hlt, by omega, ⟨⟨rfl, rfl, eqI hkk, trivial⟩, ⟨rfl, rows_eq (by rw [hfin, ← e1]; rfl), trivial⟩⟩⟩
    · have hk : k = r.masses.length := by simp at hlt; omega
      subst hk
      rw [List.take_length]
      (conv => whnf)
      refine retO [] ?_
      (conv => whnf)
      exact ⟨[(0, 1)], ⟨rfl, trivial⟩, ⟨rfl, trivial⟩⟩
theorem robB_len (r : Robot) : (robB r).length = 2 * r.joints.length + r.masses.length := by rw [robB, List.length_append, jB_len, List.length_map]
theorem ref_WriteScene (s : Scene) (hs : small s) : FnOk Tryd.prog F.ref6_WriteScene [Sc s] [] 0 (.one (.row 0)) [(0, .rows Y.Statement 3 ((writeScene s).map encSt))] 1 := by
  refine fnOk tab mix G.ref6_WriteScene rfl rfl (by kernel_rfl) rfl rfl ?_
  (conv => whnf)
  refine call_i (ref_CheckScene s hs) ?_
  (conv => whnf)
  refine ask_m (fun h => ?_) (fun h => ?_)
  · have h : ¬ checkScene s = 0 := by simpa using h
    rw [writeScene, if_neg h]
    (conv => whnf)
    refine retO [.own 2 Y.Statement 3] ?_
    (conv => whnf)
    exact ⟨[(0, 1)], ⟨rfl, trivial⟩, ⟨rfl, trivial⟩⟩
  have h : checkScene s = 0 := by simpa using h
  obtain ⟨g0, g1, g2, g3, g4⟩ := scene_facts h
  obtain ⟨f1, _, f3, _⟩ := robot_facts g0
  rw [writeScene, if_pos h]
  (conv => whnf)
  refine call_i (ref_WriteRobot s.robot hs.1 hs.2.1) ?_
  (conv => whnf)
  rw [writeRobot, if_pos g0, scB]
  have hbl := robB_len s.robot
  generalize robB s.robot = B at *
  have hB : (numb 0 B).map encSt = (numb 0 (B ++ (s.shapes.take 0).map (shB s.robot.joints))).map encSt := by simp
  rw [hB]
  refine loop_intro (fun k : Nat => ⟨[(1, .one (.vptr 0 0)), (3, .one (.row 1)), (4, I k)], [(0, bSc s), (1, .rows Y.Statement 3 ((numb 0 (B ++ (s.shapes.take k).map (shB s.robot.joints))).map encSt))], 2⟩) (fun k => k ≤ s.shapes.length) (fun k => s.shapes.length - k) [] 0 [] (Nat.zero_le _) ⟨⟨rfl, rfl, rfl, trivial⟩, ⟨rfl, rfl, trivial⟩⟩ ?_
  rintro k hk
  have hkk : IntKind.i64.wrap ((k : Int) + 1) = ((k + 1 : Nat) : Int) := by rw [w64] <;> omega
  (conv => whnf)
  refine ask_m (fun hlt => ?_) (fun hlt => ?_)
  · have hlt : k < s.shapes.length := by simpa using hlt
    obtain ⟨x, hxk⟩ : ∃ m, s.shapes[k]? = some m := ⟨_, List.getElem?_eq_getElem hlt⟩
    obtain ⟨q1, q2, q3, q4, q5⟩ := g2 x (List.mem_of_getElem? hxk)
    have q1 := link_bd q1
    have hfin : (numb 0 (B ++ (s.shapes.take (k + 1)).map (shB s.robot.joints))).map encSt = (numb 0 (B ++ (s.shapes.take k).map (shB s.robot.joints))).map encSt ++ [[.int .i64 ((B.length + k : Nat) + 1), .str wShape, .lst 1 ((linkN s.robot.joints x.link :: fmtT x.radius :: x.points.flatMap ptB).map encA)]] := by
      rw [map_take1 (shB s.robot.joints) hxk, ← List.append_assoc, shB, numb_snoc]
      simp [encA]; omega
    have hnl : ((numb 0 (B ++ (s.shapes.take k).map (shB s.robot.joints))).map encSt).length = B.length + k := by rw [List.length_map, numb_len, List.length_append, List.length_map, List.length_take]; omega
    generalize (numb 0 (B ++ (s.shapes.take k).map (shB s.robot.joints))).map encSt = rows at hnl hfin ⊢
    have e1 : IntKind.i64.wrap ((rows.length : Int) + 1) = ((B.length + k : Nat) : Int) + 1 := by rw [hnl, w64] <;> omega
    (conv => whnf)
    refine idx_and (by omega) (by simpa using hxk) ?_
    (conv => whnf)
    refine call_i (ref_linkName s.robot x.link (by omega) (by omega)) ?_
    (conv => whnf)
    refine call_i (ref_written [x.radius] (by simp)) ?_
    (conv => whnf)
    refine ⟨⟨by simp, by simp⟩, ?_⟩
    (conv => whnf)
    refine loop_intro (fun i : Nat => ⟨[(1, .one (.vptr 0 0)), (3, .one (.row 1)), (4, I k), (5, .one (.vptr 2 0)), (6, .one (.row 3)), (7, I i)], [(0, bSc s), (1, .rows Y.Statement 3 rows), (2, .vars Y.Shape [.dv (.int .i64 x.link), .dv (.int .i64 x.radius), .dv (dVs x.points)]), (3, .rows Y.string 1 ((linkN s.robot.joints x.link :: fmtT x.radius :: (x.points.take i).flatMap ptB).map encA))], 4⟩) (fun i => i ≤ x.points.length) (fun i => x.points.length - i) [] 0 [(3, 5)] (Nat.zero_le _) ⟨⟨rfl, rfl, rfl, rfl, rfl, rfl, trivial⟩, ⟨rfl, rfl, rfl, rfl, trivial⟩⟩ ?_
    rintro i hi
    have hii : IntKind.i64.wrap ((i : Int) + 1) = ((i + 1 : Nat) : Int) := by rw [w64] <;> omega
    have hal : ∀ n, ((x.points.take n).flatMap ptB).length ≤ 3 * n := by
      intro n
      have : ∀ l : List Vec, (l.flatMap ptB).length = 3 * l.length := by
        intro l
        induction l with
        | nil => rfl
        | cons p l ih => rw [List.flatMap_cons, List.length_append, ih, List.length_cons]; show 3 + _ = _; omega
      rw [this, List.length_take]; omega
    have hali := hal i
    (conv => whnf)
    refine ask_m (fun hilt => ?_) (fun hilt => ?_)
    · have hilt : i < x.points.length := by simpa using hilt
      obtain ⟨p, hpi⟩ : ∃ p, x.points[i]? = some p := ⟨_, List.getElem?_eq_getElem hilt⟩
      (conv => whnf)
      refine idx_and (by omega) (by simpa using hpi) ?_
      (conv => whnf)
      refine ⟨⟨by decide, by decide⟩, ?_⟩
      (conv => whnf)
      refine idx_and (by omega) (by simpa using hpi) ?_
      (conv => whnf)
      refine ⟨⟨by decide, by decide⟩, ?_⟩
      (conv => whnf)
      refine idx_and (by omega) (by simpa using hpi) ?_
      (conv => whnf)
      refine ⟨⟨by decide, by decide⟩, ?_⟩
      (conv => whnf)
      refine call_i (ref_written [p.x, p.y, p.z] (by simp)) ?_
      (conv => whnf)
      refine ⟨⟨by simp only [List.length_append, List.length_map, List.length_cons, List.length_nil]; omega, by simp only [List.length_append, List.length_map, List.length_cons, List.length_nil]; omega⟩, ?_⟩
      (conv => whnf)
      exact ⟨i + 1, [(3, 5)], hilt, by omega, ⟨⟨rfl, rfl, rfl, rfl, rfl, eqI hii, trivial⟩, ⟨rfl, rfl, rfl, rows_eq (by rw [flat_take ptB hpi]; simp [ptB]), trivial⟩⟩⟩
    · have hi : i = x.points.length := by simp at hilt; omega
      subst hi
      rw [List.take_length]
      (conv => whnf)
      refine ⟨⟨by simp; omega, by simp; omega⟩, ?_⟩
      (conv => whnf)
      exact ⟨k + 1, [(1, 5)], hlt, by omega, ⟨⟨rfl, rfl, eqI hkk, trivial⟩, ⟨rfl, rows_eq (by rw [hfin, ← e1]; rfl), trivial⟩⟩⟩
  · have hk : k = s.shapes.length := by simp at hlt; omega
    subst hk
    rw [List.take_length]
    have hcl : (B ++ s.shapes.map (shB s.robot.joints)).length = B.length + s.shapes.length := by simp
    generalize B ++ s.shapes.map (shB s.robot.joints) = C at *
    (conv => whnf)
    refine loop_intro (fun k : Nat => ⟨[(1, .one (.vptr 0 0)), (3, .one (.row 1)), (8, I k)], [(0, bSc s), (1, .rows Y.Statement 3 ((numb 0 (C ++ (s.skips.take k).map (skB s.robot.joints))).map encSt))], 2⟩) (fun k => k ≤ s.skips.length) (fun k => s.skips.length - k) [] 0 [] (Nat.zero_le _) ⟨⟨rfl, rfl, rfl, trivial⟩, ⟨rfl, rows_eq (by simp), trivial⟩⟩ ?_
    rintro k hk
    have hkk : IntKind.i64.wrap ((k : Int) + 1) = ((k + 1 : Nat) : Int) := by rw [w64] <;> omega
    (conv => whnf)
    refine ask_m (fun hlt => ?_) (fun hlt => ?_)
    · have hlt : k < s.skips.length := by simpa using hlt
      obtain ⟨y, hyk⟩ : ∃ m, s.skips[k]? = some m := ⟨_, List.getElem?_eq_getElem hlt⟩
      obtain ⟨q1, q2⟩ := g4 y (List.mem_of_getElem? hyk)
      have q1 := link_bd q1
      have q2 := link_bd q2
      have hfin : (numb 0 (C ++ (s.skips.take (k + 1)).map (skB s.robot.joints))).map encSt = (numb 0 (C ++ (s.skips.take k).map (skB s.robot.joints))).map encSt ++ [[.int .i64 ((C.length + k : Nat) + 1), .str wSkip, .lst 1 ([[.str (linkN s.robot.joints y.a)], [.str (linkN s.robot.joints y.b)]])]] := by
        rw [map_take1 (skB s.robot.joints) hyk, ← List.append_assoc, skB, numb_snoc]
        simp [encA]; omega
      have hnl : ((numb 0 (C ++ (s.skips.take k).map (skB s.robot.joints))).map encSt).length = C.length + k := by rw [List.length_map, numb_len, List.length_append, List.length_map, List.length_take]; omega
      generalize (numb 0 (C ++ (s.skips.take k).map (skB s.robot.joints))).map encSt = rows at hnl hfin ⊢
      have e1 : IntKind.i64.wrap ((rows.length : Int) + 1) = ((C.length + k : Nat) : Int) + 1 := by rw [hnl, w64] <;> omega
      (conv => whnf)
      refine idx_and (by omega) (by simpa using hyk) ?_
      (conv => whnf)
      refine call_i (ref_linkName s.robot y.a (by omega) (by omega)) ?_
      (conv => whnf)
      refine idx_and (by omega) (by simpa using hyk) ?_
      (conv => whnf)
      refine call_i (ref_linkName s.robot y.b (by omega) (by omega)) ?_
      (conv => whnf)
      refine ⟨⟨by simp; omega, by simp; omega⟩, ?_⟩
      (conv => whnf)
      exact ⟨k + 1, [(1, 4)], hlt, by omega, ⟨⟨rfl, rfl, eqI hkk, trivial⟩, ⟨rfl, rows_eq (by rw [hfin, ← e1]; rfl), trivial⟩⟩⟩
    · have hk : k = s.skips.length := by simp at hlt; omega
      subst hk
      rw [List.take_length]
      (conv => whnf)
      refine retO [] ?_
      (conv => whnf)
      exact ⟨[(0, 1)], ⟨rfl, trivial⟩, ⟨rfl, trivial⟩⟩
end Go.Proofs.YtafglmjadbplcaaDoor
