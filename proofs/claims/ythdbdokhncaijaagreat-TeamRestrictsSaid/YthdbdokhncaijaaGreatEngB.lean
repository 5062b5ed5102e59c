/- The abstract machine's steps: what an operation asks, and what it leaves. -/
import Derived.Test.YthdbdokhncaijaaGreatEngA
namespace Eng
open Go Go.RowKit

inductive TK where
  | one
  | int (k : IntKind)
  | bool
  | str
  | slice (e : Nat)
  | struct (fs : List (Nat × Nat))
  | arr (n e : Nat)
structure TI where
  size : Nat
  bytes : Nat
  zero : List CV
  kind : TK
def TK.agg : TK → Bool
  | .struct _ => true
  | .arr _ _ => true
  | _ => false

def lkt : List (Nat × TI) → Nat → Option TI
  | [], _ => none
  | (j, v) :: l, i => bif Nat.beq j i then some v else lkt l i

/-- A decision. -/
def askF (c : Bool) (F : Bool → Prop) : Prop := match c with | true => F true | false => F false
theorem ask_intro {c : Bool} {F : Bool → Prop} (ht : c = true → F true) (hf : c = false → F false) : askF c F := by
  cases c
  · exact hf rfl
  · exact ht rfl
theorem ask_m {c : Bool} {A B : Prop} (ht : c = true → A) (hf : c = false → B) : askF.match_1 (fun _ => Prop) c (fun _ => A) (fun _ => B) := by
  cases c
  · exact hf rfl
  · exact ht rfl
theorem ask_mt {c : Bool} {A B : Prop} (hc : c = true) (ht : A) : askF.match_1 (fun _ => Prop) c (fun _ => A) (fun _ => B) := by
  subst hc; exact ht
theorem ask_mf {c : Bool} {A B : Prop} (hc : c = false) (hf : B) : askF.match_1 (fun _ => Prop) c (fun _ => A) (fun _ => B) := by
  subst hc; exact hf
theorem ask_elim {c : Bool} {F : Bool → Prop} (h : askF c F) : F c := by cases c <;> exact h
theorem ask_t {c : Bool} {F : Bool → Prop} (hc : c = true) (h : F true) : askF c F := by subst hc; exact h
theorem ask_f {c : Bool} {F : Bool → Prop} (hc : c = false) (h : F false) : askF c F := by subst hc; exact h

/-- A row of a list. -/
def idxF (rows : List (List DV)) (i : Nat) (K : List DV → Prop) : Prop := ∃ r, rows[i]? = some r ∧ K r
theorem idx_map {α : Type} {f : α → List DV} {xs : List α} {i : Nat} {x : α} {K : List DV → Prop} (hx : xs[i]? = some x) (h : K (f x)) : idxF (xs.map f) i K :=
  ⟨f x, by simp [hx], h⟩

def cstC : Value → CV
  | .int k n => .dv (.int k n)
  | .bool b => .dv (.bool b)
  | .string s => .dv (.str s)
  | .slice none 0 0 => .nil 0
  | _ => .bot
def cst : Value → SV
  | .int k n => .one (.dv (.int k n))
  | .bool b => .one (.dv (.bool b))
  | .string s => .one (.dv (.str s))
  | .slice none 0 0 => .one (.nil 0)
  | .nilIface => .one .bot
  | .agg cs => match cs.toList.all Value.oneCell' with
    | true => .agg (cs.toList.map cstC)
    | false => .bot
  | _ => .bot
def ev (l : List (Nat × SV)) : Operand → SV
  | .tmp t => lk l t
  | .const v => cst v
  | .func f => match Nat.blt f 1000000 with
    | true => .one (.fn f [])
    | false => .bot
  | .global g => match lkv GLV g with
    | some ss => .one (.iptr (ss.map dvOf))
    | none => .bot

abbrev KO := SV → List (Nat × Box) → Nat → List Nat → Prop

def binF (bt : Bool) (op : BinOp) (x y : DV) (K : DV → Prop) : Prop :=
  match x with
  | .int k a => match y with
    | .int k' b => match op with
     | .shl => 0 ≤ b ∧ K (.int k (k.wrap (a * 2 ^ (min b.toNat k.bits))))
     | .shr => 0 ≤ b ∧ K (.int k (a.fdiv (2 ^ (min b.toNat k.bits))))
     | op => match decide (k = k') with
      | false => False
      | true => match op with
        | .add => K (.int k (k.wrap (a + b)))
        | .sub => K (.int k (k.wrap (a - b)))
        | .mul => K (.int k (k.wrap (a * b)))
        | .quo => b ≠ 0 ∧ K (.int k (k.wrap (a.tdiv b)))
        | .rem => b ≠ 0 ∧ K (.int k (a.tmod b))
        | .eql => K (.bool (a == b))
        | .neq => K (.bool (a != b))
        | .lss => K (.bool (decide (a < b)))
        | .leq => K (.bool (decide (a ≤ b)))
        | .gtr => K (.bool (decide (b < a)))
        | .geq => K (.bool (decide (b ≤ a)))
        | _ => False
    | _ => False
  | .str a => match y with
    | .str b => match op with
      | .add => a.size + b.size ≤ 9223372036854775807 ∧ K (.str (a ++ b))
      | .eql => K (.bool (decide (a = b)))
      | .neq => K (.bool (!decide (a = b)))
      | _ => False
    | _ => False
  | .bool a => match y with
    | .bool b => match bt with
      | false => False
      | true => match op with
        | .eql => K (.bool (a == b))
        | .neq => K (.bool (!(a == b)))
        | _ => False
    | _ => False
  | _ => False

def takeD : Nat → List DV → (List CV → Prop) → Prop
  | 0, _, k => k []
  | _ + 1, [], _ => False
  | n + 1, d :: ds, k => takeD n ds fun cs => k (.dv d :: cs)
def takeC : Nat → List CV → (List CV → Prop) → Prop
  | 0, _, k => k []
  | _ + 1, [], _ => False
  | n + 1, d :: ds, k => takeC n ds fun cs => k (d :: cs)
def ldD (ti : TI) (ds : List DV) (k : SV → Prop) : Prop :=
  match ti.kind.agg with
  | true => takeD ti.size ds fun cs => k (.agg cs)
  | false => match ds with
    | d :: _ => k (.one (.dv d))
    | [] => False
def ldC (ti : TI) (cs : List CV) (k : SV → Prop) : Prop :=
  match ti.kind.agg with
  | true => takeC ti.size cs fun cs => k (.agg cs)
  | false => match cs with
    | c :: _ => k (.one c)
    | [] => False
/-- 'vs' in the place of what stands in 'cs' from 'n' on. -/
def putL {α : Type} : List α → Nat → List α → (List α → Prop) → Prop
  | cs, 0, [], k => k cs
  | [], 0, _ :: _, _ => False
  | _ :: cs, 0, v :: vs, k => putL cs 0 vs fun r => k (v :: r)
  | [], _ + 1, _, _ => False
  | c :: cs, n + 1, vs, k => putL cs n vs fun r => k (c :: r)

def cells : SV → Option (List CV)
  | .one c => some [c]
  | .agg cs => some cs
  | _ => none

/-- a cell as data; 'ks': the rows that are let go -/
def toD (m : List (Nat × Box)) (ks : List Nat) (c : CV) (k : DV → List Nat → Prop) : Prop :=
  match c with
  | .dv d => k d ks
  | .nil sz => k (.lst sz []) ks
  | .row b => match ks.all fun k => !Nat.beq k b with
    | false => False
    | true => match lkb m b with
      | .rows _ sz rs => k (.lst sz rs) (b :: ks)
      | _ => False
  | _ => False
def toDs (m : List (Nat × Box)) : List Nat → List CV → (List DV → List Nat → Prop) → Prop
  | ks, [], k => k [] ks
  | ks, c :: cs, k => toD m ks c fun d ks => toDs m ks cs fun ds ks => k (d :: ds) ks
/-- cells that are data already -/
def toDp : List CV → (List DV → Prop) → Prop
  | [], k => k []
  | .dv d :: cs, k => toDp cs fun ds => k (d :: ds)
  | .nil sz :: cs, k => toDp cs fun ds => k (.lst sz [] :: ds)
  | _, _ => False
def kills (ks : List Nat) : List (Nat × Box) := ks.map fun b => (b, .dead)

/-- four whole numbers -/
def int4 (l : List (Nat × SV)) (x y z u : Operand) (K : IntKind → Int → Int → Int → Int → Prop) : Prop :=
  match ev l x with
  | .one (.dv (.int k a)) => match ev l y with
    | .one (.dv (.int _ b)) => match ev l z with
      | .one (.dv (.int _ c)) => match ev l u with
        | .one (.dv (.int _ d)) => K k a b c d
        | _ => False
      | _ => False
    | _ => False
  | _ => False
theorem int4_ok {l : List (Nat × SV)} {x y z u : Operand} {K : IntKind → Int → Int → Int → Int → Prop} (h : int4 l x y z u K) : ∃ k k2 k3 k4 a b c d, ev l x = .one (.dv (.int k a)) ∧ ev l y = .one (.dv (.int k2 b)) ∧ ev l z = .one (.dv (.int k3 c)) ∧ ev l u = .one (.dv (.int k4 d)) ∧ K k a b c d := by
  unfold int4 at h
  split at h
  · rename_i k a hx
    split at h
    · rename_i k2 b hy
      split at h
      · rename_i k3 c hz
        split at h
        · rename_i k4 d hu
          exact ⟨k, k2, k3, k4, a, b, c, d, hx, hy, hz, hu, h⟩
        · exact h.elim
      · exact h.elim
    · exact h.elim
  · exact h.elim
theorem int4_mk {l : List (Nat × SV)} {x y z u : Operand} {K : IntKind → Int → Int → Int → Int → Prop} {k k2 k3 k4 : IntKind} {a b c d : Int} (h1 : ev l x = .one (.dv (.int k a))) (h2 : ev l y = .one (.dv (.int k2 b))) (h3 : ev l z = .one (.dv (.int k3 c))) (h4 : ev l u = .one (.dv (.int k4 d))) (h : K k a b c d) : int4 l x y z u K := by
  unfold int4
  rw [h1]; simp only
  rw [h2]; simp only
  rw [h3]; simp only
  rw [h4]; exact h

abbrev Ent := (Bool × List DV) × (Bool × List DV)
/-- a plain key of a type -/
def keyD : TypeDesc → DV → Prop
  | .bool, .bool _ => True
  | .int k, .int k' _ => k' = k
  | .string, .str _ => True
  | _, _ => False
def keysD (d : TypeDesc) : List Ent → Prop
  | [] => True
  | ((false, [x]), _) :: es => keyD d x ∧ keysD d es
  | _ => False
def keyEq : DV → DV → Bool
  | .int _ a, .int _ b => decide (a = b)
  | .str a, .str b => decide (a = b)
  | .bool a, .bool b => a == b
  | _, _ => false
/-- the first entry with a key -/
def findD (key : DV) : List Ent → Option (Nat × (Bool × List DV))
  | [] => none
  | ((_, [x]), v) :: es => match keyEq key x with
    | true => some (0, v)
    | false => (findD key es).map fun p => (p.1 + 1, p.2)
  | _ :: es => (findD key es).map fun p => (p.1 + 1, p.2)
def findF (key : DV) (es : List Ent) (K : Option (Nat × (Bool × List DV)) → Prop) : Prop := ∃ r, findD key es = r ∧ K r
theorem find_is {key : DV} {es : List Ent} {r : Option (Nat × (Bool × List DV))} {K : Option (Nat × (Bool × List DV)) → Prop} (h : findD key es = r) (k : K r) : findF key es K := ⟨r, h, k⟩

/-- an entry's number under a key of several cells -/
def FindA (key : List DV) (es : List Ent) (r : Option (Nat × (Bool × List DV))) : Prop := match r with
  | none => ∀ e ∈ es, e.1.2 ≠ key
  | some (i, v) => es[i]? = some ((true, key), v) ∧ ∀ j e, j < i → es[j]? = some e → e.1.2 ≠ key
def lookV (ok agg : Bool) (cs : List CV) (found : Bool) : SV := match ok with
  | true => .tup [(agg, cs), (false, [.dv (.bool found)])]
  | false => match agg with
    | true => .agg cs
    | false => match cs with
      | [c] => .one c
      | _ => .bot
/-- whether the zero value of a type has several cells -/
def zAgg (P : Program) (t : Nat) : Bool := match P.info? t with
  | some i => match i.zero with
    | some (.agg _) => true
    | _ => false
  | none => false
def dataW (v : SV) (k : Bool × List DV → Prop) : Prop := match v with
  | .one c => toDp [c] fun ds => k (false, ds)
  | .agg cs => toDp cs fun ds => k (true, ds)
  | _ => False

section
variable (T : List (Nat × TI))
def boolT (t : Nat) : Bool := match lkt T t with
  | some ti => match ti.kind with
    | .bool => true
    | _ => false
  | none => false
def esize (ty : Nat) : Nat := match lkt T ty with
  | some ti => match ti.kind with
    | .slice e => match lkt T e with
      | some te => te.size
      | none => 0
    | _ => 0
  | none => 0
def evT (ty : Nat) (l : List (Nat × SV)) (x : Operand) : SV :=
  match x with
  | .const (.slice none 0 0) => .one (.nil (esize T ty))
  | x => ev l x

def loadW (m : List (Nat × Box)) (ti : TI) (x : SV) (K : SV → List Nat → Prop) : Prop :=
  match x with
  | .one (.iptr ds) => ldD ti ds fun v => K v []
  | .one (.vptr b off) => match lkb m b with
    | .vars _ cs => ldC ti (cs.drop off) fun v => K v [b]
    | _ => False
  | .one (.rptr b i off) => match lkb m b with
    | .rows _ _ rs => idxF rs i fun r => ldD ti (r.drop off) fun v => K v [b]
    | .orow _ _ rs last => i = rs.length ∧ ldC ti (last.drop off) fun v => K v [b]
    | _ => False
  | _ => False

def storeW (m : List (Nat × Box)) (ti : TI) (x : SV) (cs : List CV) (K : List (Nat × Box) → List Nat → Prop) : Prop :=
  match Nat.beq cs.length ti.size with
  | false => False
  | true => match x with
    | .one (.vptr b off) => match lkb m b with
      | .vars t old => putL old off cs fun new => K [(b, .vars t new)] [b]
      | _ => False
    | .one (.rptr b i off) => match lkb m b with
      | .rows t sz rs => toDs m [] cs fun ds ks => match ks with
        | [] => idxF rs i fun r => putL r off ds fun new => K [(b, .rows t sz (rs.set i new))] [b]
        | k :: ks => match (k :: ks).all fun k => !Nat.beq k b with
          | false => False
          | true => idxF rs i fun r => putL r off ds fun new => K ((b, .rows t sz (rs.set i new)) :: kills (k :: ks)) (b :: k :: ks)
      | .orow t sz rs last => i = rs.length ∧ putL last off cs fun new => K [(b, .orow t sz rs new)] [b]
      | _ => False
    | _ => False

/-- an element of an array -/
def arrF (te : TI) (cs : List CV) (i : Nat) (k : SV → Prop) : Prop := ldC te (cs.drop (i * te.size)) k
def indexW (m : List (Nat × Box)) (ti : TI) (x : SV) (i : Int) (K : SV → List Nat → Prop) : Prop :=
  match ti.kind with
  | .arr c e => match lkt T e with
    | none => False
    | some te => match Nat.beq te.size 0 with
      | true => False
      | false => match x with
        | .one (.iptr ds) => (0 ≤ i ∧ i < c) ∧ K (.one (.iptr (ds.drop (i.toNat * te.size)))) []
        | .one (.vptr b o) => match lkb m b with
          | .vars _ _ => (0 ≤ i ∧ i < c) ∧ K (.one (.vptr b (o + i.toNat * te.size))) []
          | _ => False
        | .one (.rptr b r o) => match lkb m b with
          | .rows _ _ _ => (0 ≤ i ∧ i < c) ∧ K (.one (.rptr b r (o + i.toNat * te.size))) []
          | _ => False
        | _ => False
  | .slice e => match lkt T e with
    | none => False
    | some te => match x with
      | .one (.dv (.lst sz rows)) => match Nat.beq sz te.size with
        | false => False
        | true => 0 ≤ i ∧ idxF rows i.toNat fun r => K (.one (.iptr r)) []
      | .one (.row b) => match lkb m b with
        | .rows _ sz rs => match Nat.beq sz te.size with
          | false => False
          | true => (0 ≤ i ∧ i < rs.length) ∧ K (.one (.rptr b i.toNat 0)) [b]
        | .orow _ sz rs _ => match Nat.beq sz te.size with
          | false => False
          | true => (0 ≤ i ∧ i < rs.length + 1) ∧ K (.one (.rptr b i.toNat 0)) [b]
        | _ => False
      | _ => False
  | _ => False

/-- a byte of a text -/
def byteAt (s : ByteArray) (i : Nat) : Int := ((s[i]?).getD 0).toNat
/-- an element of a text or of an array that is at hand -/
def elemW (ti : TI) (x : SV) (i : Int) (K : SV → Prop) : Prop :=
  match ti.kind with
  | .str => match x with
    | .one (.dv (.str s)) => (0 ≤ i ∧ i < s.size) ∧ K (.one (.dv (.int .u8 (byteAt s i.toNat))))
    | _ => False
  | .arr c e => match lkt T e with
    | none => False
    | some te => match x with
      | .agg cs => (0 ≤ i ∧ i < c) ∧ arrF te cs i.toNat K
      | _ => False
  | _ => False
/-- the bounds of a slice expression -/
def bndsW (len : Nat) (lo hi : Option Int) (k : Nat → Nat → Prop) : Prop :=
  match hi with
  | none => match lo with
    | none => k 0 len
    | some a => (0 ≤ a ∧ a ≤ len) ∧ k a.toNat len
  | some b => match lo with
    | none => (0 ≤ b ∧ b ≤ len) ∧ k 0 b.toNat
    | some a => (0 ≤ a ∧ a ≤ b ∧ b ≤ len) ∧ k a.toNat b.toNat
def optI (l : List (Nat × SV)) (x : Option Operand) (k : Option Int → Prop) : Prop :=
  match x with
  | none => k none
  | some x => match ev l x with
    | .one (.dv (.int _ i)) => k (some i)
    | _ => False
def sliceW (ti : TI) (x : SV) (lo hi : Option Int) (m : List (Nat × Box)) (n : Nat) (K : KO) : Prop :=
  match ti.kind with
  | .slice e => match lkt T e with
    | none => False
    | some te => match x with
      | .one (.dv (.lst sz rows)) => match Nat.beq sz te.size with
        | false => False
        | true => bndsW rows.length lo hi fun a b => K (.one (.dv (.lst sz ((rows.take b).drop a)))) [] n []
      | .one (.nil sz) => bndsW 0 lo hi fun _ _ => K (.one (.nil sz)) [] n []
      | .one (.row b) => match lkb m b with
        | .rows t sz rs => match Nat.beq sz te.size with
          | false => False
          | true => match lo with
            | none => bndsW rs.length none hi fun _ h => K (.one (.row n)) [(n, .rows t sz (rs.take h)), (b, .dead)] (n + 1) [b] ∨ K (.one (.rpx b h)) [] n [b]
            | some _ => match hi with
              | none => bndsW rs.length lo none fun a _ => K (.one (.rsl b a)) [] n [b]
              | some _ => False
        | _ => False
      | _ => False
  | .str => match x with
    | .one (.dv (.str s)) => bndsW s.size lo hi fun a b => K (.one (.dv (.str (s.extract a b)))) [] n []
    | _ => False
  | .arr c e => match lkt T e with
    | none => False
    | some te => match x with
      | .one (.vptr b off) => match lkb m b with
        | .vars t cs => match Nat.beq te.size 1 && Nat.beq cs.length c && Nat.beq off 0 && Nat.ble c 1000000 with
          | false => False
          | true => match lo with
            | some _ => False
            | none => bndsW c none hi fun _ h => (toDp cs fun ds => K (.one (.row n)) [(n, .rows t 1 ((ds.take h).map fun d => [d])), (b, .dead)] (n + 1) [b]) ∨ K (.one (.avw b h c)) [] n [b]
        | _ => False
      | _ => False
  | _ => False
/-- the next sign of a text -/
def nextW (m : List (Nat × Box)) (x : SV) (K : SV → List (Nat × Box) → List Nat → Prop) : Prop :=
  match x with
  | .one (.vptr b 0) => match lkb m b with
    | .iter s pos => askF (decide (pos < s.size)) fun
      | true => K (.tup [(false, [.dv (.bool true)]), (false, [.dv (.int .i64 pos)]), (false, [.dv (.int .i32 (Utf8.decode s pos).1)])]) [(b, .iter s (pos + (Utf8.decode s pos).2))] [b]
      | false => K (.tup [(false, [.dv (.bool false)])]) [] [b]
    | _ => False
  | _ => False
/-- what a function value captures -/
def capsOf : List SV → Option (List (Nat × Nat))
  | [] => some []
  | .one (.vptr b off) :: vs => match capsOf vs with
    | some ps => some ((b, off) :: ps)
    | none => none
  | _ => none

def fieldAtW (m : List (Nat × Box)) (ti : TI) (f : Nat) (x : SV) (K : SV → Prop) : Prop :=
  match ti.kind with
  | .struct fs => match fs[f]? with
    | none => False
    | some (off, ft) => match lkt T ft with
      | none => False
      | some te => match Nat.beq te.size 0 with
        | true => False
        | false => match x with
          | .one (.iptr ds) => K (.one (.iptr (ds.drop off)))
          | .one (.vptr b o) => match lkb m b with
            | .vars _ _ => K (.one (.vptr b (o + off)))
            | _ => False
          | .one (.rptr b i o) => match lkb m b with
            | .rows _ _ _ => K (.one (.rptr b i (o + off)))
            | .orow _ _ _ _ => K (.one (.rptr b i (o + off)))
            | _ => False
          | _ => False
  | _ => False

def lenW (m : List (Nat × Box)) (ti : TI) (x : SV) (K : Int → List Nat → Prop) : Prop :=
  match ti.kind with
  | .slice _ => match x with
    | .one (.dv (.lst _ rows)) => K rows.length []
    | .one (.nil _) => K 0 []
    | .one (.row b) => match lkb m b with
      | .rows _ _ rs => K rs.length [b]
      | .orow _ _ rs _ => K ((rs.length + 1 : Nat) : Int) [b]
      | _ => False
    | _ => False
  | .str => match x with
    | .one (.dv (.str s)) => K s.size []
    | _ => False
  | .arr n _ => K n []
  | _ => False

/-- parts laid into the cells of a struct or an array -/
def partsW (place : Nat → Option (Nat × Nat)) (l : List (Nat × SV)) : List (Nat × Operand) → List CV → (List CV → Prop) → Prop
  | [], cs, k => k cs
  | (i, x) :: ps, cs, k => match place i with
    | none => False
    | some (off, ft) => match lkt T ft with
      | none => False
      | some te => match cells (evT T ft l x) with
        | none => False
        | some vs => match Nat.beq vs.length te.size with
          | false => False
          | true => putL cs off vs fun cs => partsW place l ps cs k
def placeOf (ti : TI) (i : Nat) : Option (Nat × Nat) :=
  match ti.kind with
  | .struct fs => fs[i]?
  | .arr _ e => match lkt T e with
    | some te => some (i * te.size, e)
    | none => none
  | _ => none
def buildW (ti : TI) (l : List (Nat × SV)) (parts : List (Nat × Operand)) (K : SV → Prop) : Prop :=
  match ti.kind.agg with
  | false => False
  | true => partsW T (placeOf T ti) l parts ti.zero fun cs => K (.agg cs)
def fieldW (ti : TI) (f : Nat) (x : SV) (K : SV → Prop) : Prop :=
  match ti.kind with
  | .struct fs => match fs[f]? with
    | none => False
    | some (off, ft) => match lkt T ft with
      | none => False
      | some te => match x with
        | .agg cs => ldC te (cs.drop off) K
        | _ => False
  | _ => False
/-- the rows of a slice that is written out: every element is given, in order -/
def rowsW (e : Nat) (te : TI) (l : List (Nat × SV)) (m : List (Nat × Box)) : Nat → List (Nat × Operand) → List Nat → (List (List DV) → List Nat → Prop) → Prop
  | _, [], ks, k => k [] ks
  | j, (i, x) :: ps, ks, k => match Nat.beq i j with
    | false => False
    | true => match cells (evT T e l x) with
      | none => False
      | some cs => match Nat.beq cs.length te.size with
        | false => False
        | true => toDs m ks cs fun ds ks => rowsW e te l m (j + 1) ps ks fun rs ks => k (ds :: rs) ks
def buildSliceW (ti : TI) (len : Nat) (l : List (Nat × SV)) (m : List (Nat × Box)) (n : Nat) (parts : List (Nat × Operand)) (K : KO) : Prop :=
  match ti.kind with
  | .slice e => match lkt T e with
    | none => False
    | some te => match Nat.beq parts.length len && Nat.ble (len * te.size) 16777216 && Nat.blt 0 te.size with
      | false => False
      | true => rowsW T e te l m 0 parts [] fun rs ks => K (.one (.row n)) ((n, .rows e te.size rs) :: kills ks) (n + 1) ks
  | _ => False
/-- what is appended -/
def srcW (m : List (Nat × Box)) (sz : Nat) (x : SV) (k : List (List DV) → List Nat → Prop) : Prop :=
  match x with
  | .one (.nil _) => k [] []
  | .one (.dv (.lst s rs)) => match Nat.beq s sz with
    | true => k rs []
    | false => False
  | .one (.row b) => match lkb m b with
    | .rows _ s rs => match Nat.beq s sz with
      | true => k rs [b]
      | false => False
    | _ => False
  | .one (.rpx b n) => match lkb m b with
    | .rows _ s rs => match Nat.beq s sz with
      | true => (n ≤ rs.length ∧ 0 < rs.length) ∧ k (rs.take n) [b]
      | false => False
    | _ => False
  | _ => False
def appendW (ti : TI) (x y : SV) (m : List (Nat × Box)) (n : Nat) (K : KO) : Prop :=
  match ti.kind with
  | .slice e => match lkt T e with
    | none => False
    | some te => match Nat.blt 0 te.size with
      | false => False
      | true => srcW m te.size y fun news ft => match x with
        | .one (.nil _) => (news.length ≤ 9223372036854775807 ∧ news.length * te.bytes ≤ 140737488355328) ∧ K (.one (.row n)) [(n, .rows e te.size news)] (n + 1) ft
        | .one (.row b) => match lkb m b with
          | .rows t s rs => match Nat.beq s te.size && Nat.beq t e with
            | false => False
            | true => ((rs ++ news).length ≤ 9223372036854775807 ∧ (rs ++ news).length * te.bytes ≤ 140737488355328) ∧ K (.one (.row n)) [(n, .rows e te.size (rs ++ news)), (b, .dead)] (n + 1) (b :: ft)
          | _ => False
        | .one (.rsl b i) => match lkb m b with
          | .rows t s rs => match Nat.beq s te.size && Nat.beq t e with
            | false => False
            | true => (i < rs.length ∧ (rs.drop i ++ news).length ≤ 9223372036854775807 ∧ (rs.drop i ++ news).length * te.bytes ≤ 140737488355328) ∧ K (.one (.dv (.lst te.size (rs.drop i ++ news)))) [(b, .dead)] n (b :: ft)
          | _ => False
        | _ => False
  | _ => False
/-- what copy writes: the box, and the row at which it begins -/
def dstOf : SV → Option (Nat × Nat)
  | .one (.row b) => some (b, 0)
  | .one (.rsl b x) => some (b, x)
  | _ => none
def copied (rs : List (List DV)) (x : Nat) (news : List (List DV)) : List (List DV) :=
  rs.take x ++ news.take (rs.length - x) ++ rs.drop (x + news.length)
def copiedA (cs : List CV) (k : Nat) (news : List (List DV)) : List CV := (news.take k).flatten.map CV.dv ++ cs.drop (min news.length k)
def copyW (ti : TI) (x y : SV) (m : List (Nat × Box)) (n : Nat) (K : KO) : Prop :=
  match ti.kind with
  | .slice e => match lkt T e with
    | none => False
    | some te => match x with
      | .one (.avw b k _) => match lkb m b with
        | .vars t cs => match Nat.beq te.size 1 with
          | false => False
          | true => srcW m te.size y fun news ft => k ≤ cs.length ∧ K (.one (.dv (.int .i64 (min news.length k : Nat)))) [(b, .vars t (copiedA cs k news))] n (b :: ft)
        | _ => False
      | x => match dstOf x with
        | none => False
        | some (b, a) => match lkb m b with
          | .rows t s rs => match Nat.beq s te.size && Nat.beq t e with
            | false => False
            | true => srcW m te.size y fun news ft => (0 < rs.length ∧ a ≤ rs.length) ∧ K (.one (.dv (.int .i64 (min news.length (rs.length - a) : Nat)))) [(b, .rows t s (copied rs a news))] n (b :: ft)
          | _ => False
  | _ => False
def makeW (ti : TI) (len cap : Int) (n : Nat) (K : KO) : Prop :=
  match ti.kind with
  | .slice e => match lkt T e with
    | none => False
    | some te => match Nat.blt 0 te.size with
      | false => False
      | true => toDp te.zero fun z => (0 ≤ len ∧ len ≤ cap ∧ (te.bytes : Int) * cap ≤ 281474976710656 ∧ cap ≤ 9223372036854775807) ∧ K (.one (.row n)) [(n, .rows e te.size (List.replicate len.toNat z))] (n + 1) []
  | _ => False
def convW (ts td : TI) (x : SV) (K : SV → Prop) : Prop :=
  match td.kind with
  | .int k => match x with
    | .one (.dv (.int _ a)) => K (.one (.dv (.int k (k.wrap a))))
    | _ => False
  | .str => match ts.kind with
    | .str => match x with
      | .one (.dv (.str s)) => K (.one (.dv (.str s)))
      | _ => False
    | .int _ => match x with
      | .one (.dv (.int _ a)) => K (.one (.dv (.str (Utf8.encode a))))
      | _ => False
    | _ => False
  | _ => False

def aggT (t : Nat) : Bool := match lkt T t with
  | some ti => ti.kind.agg
  | none => false
/-- structs and arrays compared, cell by cell -/
def eqFs (E : Nat → List CV → List CV → (Bool → Prop) → Prop) (cs ds : List CV) : List (Nat × Nat) → (Bool → Prop) → Prop
  | [], k => k true
  | (off, ft) :: fs, k => match lkt T ft with
    | none => False
    | some te => E ft ((cs.drop off).take te.size) ((ds.drop off).take te.size) fun r => eqFs E cs ds fs fun r' => k (r && r')
def eqK : Nat → Nat → List CV → List CV → (Bool → Prop) → Prop
  | 0, _, _, _, _ => False
  | n + 1, t, cs, ds, k => match lkt T t with
    | none => False
    | some ti => match ti.kind with
      | .int _ => match cs with
        | [.dv (.int k1 a)] => match ds with
          | [.dv (.int k2 b)] => match decide (k1 = k2) with
            | true => k (decide (a = b))
            | false => False
          | _ => False
        | _ => False
      | .bool => match cs with
        | [.dv (.bool a)] => match ds with
          | [.dv (.bool b)] => k (a == b)
          | _ => False
        | _ => False
      | .str => match cs with
        | [.dv (.str a)] => match ds with
          | [.dv (.str b)] => k (decide (a = b))
          | _ => False
        | _ => False
      | .struct fs => eqFs T (eqK n) cs ds fs k
      | .arr c e => match lkt T e with
        | none => False
        | some te => eqFs T (eqK n) cs ds ((List.range c).map fun i => (i * te.size, e)) k
      | _ => False
/-- what the program itself must say of such a type -/
def cmpB (P : Program) : Nat → Nat → Bool
  | 0, _ => false
  | n + 1, t => match P.underlying t with
    | some (.struct F) => !P.stoodInHeld t && F.toList.all fun f => f.name != "_" && cmpB P n f.type
    | some (.array _ e) => cmpB P n e
    | some .bool => true
    | some (.int _) => true
    | some .string => true
    | _ => false

def idxOf (b : Nat) : List Nat → Nat → Option Nat
  | [], _ => none
  | p :: ps, j => bif Nat.beq p b then some j else idxOf b ps (j + 1)
/-- a box is handed over -/
def handW (m : List (Nat × Box)) (b : Nat) (ps : List Nat) (k : Nat → List Nat → Prop) : Prop :=
  match lkb m b with
  | .dead => False
  | _ => match idxOf b ps 0 with
    | some j => k j ps
    | none => k ps.length (ps ++ [b])
def capsW (m : List (Nat × Box)) : List (Nat × Nat) → List Nat → (List (Nat × Nat) → List Nat → Prop) → Prop
  | [], ps, k => k [] ps
  | (b, off) :: cs, ps, k => handW m b ps fun j ps => capsW m cs ps fun cs ps => k ((j, off) :: cs) ps
/-- a cell handed to a call: 'ps': the boxes that are handed over; 'sh': the rows that are read -/
def cvW (m : List (Nat × Box)) (c : CV) (ps sh : List Nat) (k : CV → List Nat → List Nat → Prop) : Prop :=
  match c with
  | .dv d => k (.dv d) ps sh
  | .nil sz => k (.dv (.lst sz [])) ps sh
  | .row b => match lkb m b with
    | .rows _ sz rs => k (.dv (.lst sz rs)) ps (b :: sh)
    | .mp _ => handW m b ps fun j ps => k (.row j) ps sh
    | _ => False
  | .vptr b off => handW m b ps fun j ps => k (.vptr j off) ps sh
  | .fn f caps => capsW m caps ps fun caps ps => k (.fn f caps) ps sh
  | _ => False
def cvsW (m : List (Nat × Box)) : List CV → List Nat → List Nat → (List CV → List Nat → List Nat → Prop) → Prop
  | [], ps, sh, k => k [] ps sh
  | c :: cs, ps, sh, k => cvW m c ps sh fun c ps sh => cvsW m cs ps sh fun cs ps sh => k (c :: cs) ps sh
def svW (m : List (Nat × Box)) (v : SV) (ps sh : List Nat) (k : SV → List Nat → List Nat → Prop) : Prop :=
  match v with
  | .one c => cvW m c ps sh fun c ps sh => k (.one c) ps sh
  | .agg cs => cvsW m cs ps sh fun cs ps sh => k (.agg cs) ps sh
  | _ => False
def svsW (m : List (Nat × Box)) : List SV → List Nat → List Nat → (List SV → List Nat → List Nat → Prop) → Prop
  | [], ps, sh, k => k [] ps sh
  | c :: cs, ps, sh, k => svW m c ps sh fun c ps sh => svsW m cs ps sh fun cs ps sh => k (c :: cs) ps sh
/-- a cell of a box that is handed over: what it names is handed over too -/
def bcW (m : List (Nat × Box)) (c : CV) (ps : List Nat) (k : CV → List Nat → Prop) : Prop :=
  match c with
  | .dv d => k (.dv d) ps
  | .nil sz => k (.nil sz) ps
  | .row b => handW m b ps fun j ps => k (.row j) ps
  | .vptr b off => handW m b ps fun j ps => k (.vptr j off) ps
  | .fn f caps => capsW m caps ps fun caps ps => k (.fn f caps) ps
  | .bot => k .bot ps
  | .npt => k .npt ps
  | _ => False
def bcsW (m : List (Nat × Box)) : List CV → List Nat → (List CV → List Nat → Prop) → Prop
  | [], ps, k => k [] ps
  | c :: cs, ps, k => bcW m c ps fun c ps => bcsW m cs ps fun cs ps => k (c :: cs) ps
/-- the boxes that are handed over -/
def bxsW (m : List (Nat × Box)) : Nat → Nat → List Nat → (List Nat → List (Nat × Box) → Prop) → Prop
  | 0, _, _, _ => False
  | fuel + 1, j, ps, k => match ps[j]? with
    | none => k ps []
    | some b => match lkb m b with
      | .vars t cs => bcsW m cs ps fun cs ps => bxsW m fuel (j + 1) ps fun ps mA => k ps ((j, .vars t cs) :: mA)
      | .rows t sz rs => bxsW m fuel (j + 1) ps fun ps mA => k ps ((j, .rows t sz rs) :: mA)
      | .mp es => bxsW m fuel (j + 1) ps fun ps mA => k ps ((j, .mp es) :: mA)
      | _ => False
def ren (ps : List Nat) (n b : Nat) : Nat := match ps[b]? with
  | some p => p
  | none => n + (b - ps.length)
/-- a box keeps its kind -/
def kindB : Box → Box → Bool
  | _, .dead => true
  | .rows _ sz _, .rows _ sz' _ => Nat.beq sz sz'
  | _, .rows _ _ _ => false
  | _, .orow _ _ _ _ => false
  | _, _ => true
def kindsB (mA mR : List (Nat × Box)) : Nat → Bool
  | 0 => true
  | n + 1 => kindB (lkb mA n) (lkb mR n) && kindsB mA mR n
def keysB (nR : Nat) : List (Nat × Box) → Bool
  | [] => true
  | (k, _) :: m => Nat.blt k nR && keysB nR m
def apartB (ps sh : List Nat) : Bool := sh.all fun b => ps.all fun p => !Nat.beq p b
/-- the result has a slice in it: then the rows that were read are let go -/
def hardC : CV → Bool
  | .dv (.lst _ _) => true
  | _ => false
def hardS : SV → Bool
  | .one c => hardC c
  | .agg cs => cs.any hardC
  | .tup ts => ts.any fun t => t.2.any hardC
  | .bot => true
def callW (P : Program) (f : Nat) (m : List (Nat × Box)) (n : Nat) (svs : List SV) (K : KO) : Prop :=
  svsW m svs [] [] fun args ps sh => bxsW m 24 0 ps fun ps mA => match apartB ps sh with
    | false => False
    | true => ∃ sv mR nR, FnOk P f args mA ps.length sv mR nR ∧ (match kindsB mA mR ps.length && keysB nR mR && Nat.ble ps.length nR with
      | false => False
      | true => match sh with
        | [] => K (renS (ren ps n) sv) (renM (ren ps n) mR ++ kills ps) (n + (nR - ps.length)) (ps ++ sh)
        | _ => match hardS sv with
          | true => K (renS (ren ps n) sv) (renM (ren ps n) mR ++ (kills ps ++ kills sh)) (n + (nR - ps.length)) (ps ++ sh)
          | false => (FlatS sv ∧ FlatM mR) ∧ K (renS (ren ps n) sv) (renM (ren ps n) mR ++ kills ps) (n + (nR - ps.length)) (ps ++ sh))

def evTs (l : List (Nat × SV)) : List Nat → List Operand → List SV
  | t :: ts, x :: xs => evT T t l x :: evTs l ts xs
  | [], x :: xs => ev l x :: evTs l [] xs
  | _, [] => []

/-- a type of several cells -/
def wideB : TypeDesc → Bool
  | .array _ _ => true
  | .struct _ => true
  | _ => false
def plainD : DV → Bool
  | .int _ _ => true
  | .bool _ => true
  | .str _ => true
  | _ => false
/-- two keys are held against each other, as the program does it -/
def keyEqs (kt : Nat) (key ds : List DV) : Prop := ∃ b : Bool, (b = true ↔ key = ds) ∧ ∀ K : Bool → Prop, K b → eqK T 8 kt (key.map CV.dv) (ds.map CV.dv) K
def keysA (kt : Nat) (key : List DV) (es : List Ent) : Prop := ∀ e ∈ es, ∃ ds v, e = ((true, ds), v) ∧ keyEqs T kt key ds
def keyA (P : Program) (t kt et : Nat) (key : List DV) (es : List Ent) : Prop :=
  (P.underlying t = some (.map kt et) ∧ (∃ d, P.underlying kt = some d ∧ wideB d = true) ∧ cmpB P 8 kt = true ∧ key.all plainD = true) ∧ keyEqs T kt key key ∧ keysA T kt key es
def lookupW (P : Program) (t : Nat) (l : List (Nat × SV)) (m : List (Nat × Box)) (n : Nat) (x k : Operand) (ok : Bool) (K : KO) : Prop :=
  match ev l x with
  | .one (.row b) => match lkb m b with
    | .mp es => match ev l k with
      | .one (.dv key) => ∃ kt et d, (P.underlying t = some (.map kt et) ∧ P.underlying kt = some d ∧ keyD d key ∧ keysD d es) ∧ match lkt T et with
        | none => False
        | some te => zAgg P et = te.kind.agg ∧ findF key es fun r => match r with
          | some (_, v) => K (lookV ok v.1 (v.2.map .dv) true) [] n [b]
          | none => K (lookV ok te.kind.agg te.zero false) [] n [b]
      | .agg cs => toDp cs fun key => ∃ kt et, keyA T P t kt et key es ∧ match lkt T kt with
        | none => False
        | some _ => match lkt T et with
          | none => False
          | some te => zAgg P et = te.kind.agg ∧ ∃ r, FindA key es r ∧ (match r with
            | some (_, v) => K (lookV ok v.1 (v.2.map .dv) true) [] n [b]
            | none => K (lookV ok te.kind.agg te.zero false) [] n [b])
      | _ => False
    | _ => False
  | _ => False
def insertW (P : Program) (t : Nat) (l : List (Nat × SV)) (m : List (Nat × Box)) (n : Nat) (x k y : Operand) (K : KO) : Prop :=
  match ev l x with
  | .one (.row b) => match lkb m b with
    | .mp es => match ev l k with
      | .one (.dv key) => ∃ kt et d, (P.underlying t = some (.map kt et) ∧ P.underlying kt = some d ∧ keyD d key ∧ keysD d es) ∧ dataW (evT T et l y) fun v => findF key es fun r => match r with
        | none => K .bot [(b, .mp (es ++ [((false, [key]), v)]))] n [b]
        | some (i, _) => K .bot [(b, .mp (es.set i ((false, [key]), v)))] n [b]
      | .agg cs => toDp cs fun key => ∃ kt et, keyA T P t kt et key es ∧ match lkt T kt with
        | none => False
        | some _ => dataW (evT T et l y) fun v => ∃ r, FindA key es r ∧ (match r with
          | none => K .bot [(b, .mp (es ++ [((true, key), v)]))] n [b]
          | some (i, _) => K .bot [(b, .mp (es.set i ((true, key), v)))] n [b])
      | _ => False
    | _ => False
  | _ => False
def opW (P : Program) (o : Oper) (l : List (Nat × SV)) (m : List (Nat × Box)) (n : Nat) (K : KO) : Prop :=
  match o.op with
  | .move x => K (evT T o.type l x) [] n []
  | .assign x => K (evT T o.type l x) [] n []
  | .pick c a b => match ev l c with
    | .one (.dv (.bool c)) => askF c fun | true => K (evT T o.type l a) [] n [] | false => K (evT T o.type l b) [] n []
    | _ => False
  | .binOp op t x y _ => match ev l x with
    | .one (.dv x) => match ev l y with
      | .one (.dv y) => binF (boolT T t) op x y fun d => K (.one (.dv d)) [] n []
      | .one (.nil _) => match op with
        | .eql => match lkt T t with
          | some ti => match ti.kind with
            | .slice _ => match x with
              | .lst _ rs => K (.one (.anyb (rs = []))) [] n []
              | _ => False
            | _ => False
          | none => False
        | _ => False
      | _ => False
    | .agg cs => match ev l y with
      | .agg ds => match aggT T t with
       | false => False
       | true => match op with
        | .eql => (cmpB P 8 t = true ∧ P.eqGuardType P.depth t = false) ∧ eqK T 8 t cs ds fun b => K (.one (.dv (.bool b))) [] n []
        | .neq => (cmpB P 8 t = true ∧ P.eqGuardType P.depth t = false) ∧ eqK T 8 t cs ds fun b => K (.one (.dv (.bool !b))) [] n []
        | _ => False
      | _ => False
    | _ => False
  | .unOp op _ x => match ev l x with
    | .one (.dv (.bool b)) => match op with
      | .not => K (.one (.dv (.bool !b))) [] n []
      | _ => False
    | .one (.dv (.int k a)) => match op with
      | .neg => K (.one (.dv (.int k (k.wrap (0 - a))))) [] n []
      | _ => False
    | _ => False
  | .load t x => match lkt T t with
    | some ti => loadW m ti (ev l x) fun v ft => K v [] n ft
    | none => False
  | .store t x v => match lkt T t with
    | some ti => match cells (evT T t l v) with
      | some cs => storeW m ti (ev l x) cs fun upd ft => K .bot upd n ft
      | none => False
    | none => False
  | .alloc t => match lkt T t with
    | some ti => K (.one (.vptr n 0)) [(n, .vars t ti.zero)] (n + 1) []
    | none => False
  | .box t x => match cells (evT T t l x) with
    | some cs => K (.one (.vptr n 0)) [(n, .vars t cs)] (n + 1) []
    | none => False
  | .indexAddr t x i => match lkt T t with
    | some ti => match ev l i with
      | .one (.dv (.int _ i)) => indexW T m ti (ev l x) i fun v ft => K v [] n ft
      | _ => False
    | none => False
  | .fieldAddr t x f => match lkt T t with
    | some ti => fieldAtW T m ti f (ev l x) fun v => K v [] n []
    | none => False
  | .index t x i => match lkt T t with
    | some ti => match ev l i with
      | .one (.dv (.int _ i)) => elemW T ti (ev l x) i fun v => K v [] n []
      | _ => False
    | none => False
  | .slice t x lo hi mx => match mx with
    | some _ => False
    | none => match lkt T t with
      | some ti => optI l lo fun lo => optI l hi fun hi => sliceW T ti (evT T t l x) lo hi m n K
      | none => False
  | .range t x => match lkt T t with
    | some ti => match ti.kind with
      | .str => match ev l x with
        | .one (.dv (.str s)) => K (.one (.vptr n 0)) [(n, .iter s 0)] (n + 1) []
        | _ => False
      | _ => False
    | none => False
  | .next x str => match str with
    | true => nextW m (ev l x) fun v upd ft => K v upd n ft
    | false => False
  | .makeFunc fn first captured => match fn with
    | .func f => match Nat.blt f 1000000 with
      | false => False
      | true => match first.toList with
        | [] => match capsOf (captured.toList.map (ev l)) with
          | some caps => K (.one (.fn f caps)) [] n []
          | none => False
        | x :: xs => match captured.toList with
          | [] => match capsOf ((x :: xs).map (ev l)) with
            | some caps => K (.one (.fn (Nat.add 1000000 f) caps)) [] n []
            | none => False
          | _ => False
    | _ => False
  | .build t parts => match lkt T t with
    | some ti => buildW T ti l parts.toList fun v => K v [] n []
    | none => False
  | .field t x f => match lkt T t with
    | some ti => fieldW T ti f (ev l x) fun v => K v [] n []
    | none => False
  | .buildSlice t len parts => match lkt T t with
    | some ti => buildSliceW T ti len l m n parts.toList K
    | none => False
  | .makeSlice t x y => match lkt T t with
    | some ti => match ev l x with
      | .one (.dv (.int _ a)) => match ev l y with
        | .one (.dv (.int _ b)) => makeW T ti a b n K
        | _ => False
      | _ => False
    | none => False
  | .convert s d x => match lkt T s with
    | some ts => match lkt T d with
      | some td => convW ts td (ev l x) fun v => K v [] n []
      | none => False
    | none => False
  | .extract x i => match ev l x with
    | .tup ts => match ts[i]? with
      | some (true, cs) => K (.agg cs) [] n []
      | some (false, [c]) => K (.one c) [] n []
      | _ => False
    | _ => False
  | .nilCheck x => match ev l x with
    | .one (.vptr b o) => match lkb m b with
      | .vars _ _ => K (.one (.vptr b o)) [] n []
      | _ => False
    | .one (.iptr ds) => K (.one (.iptr ds)) [] n []
    | .one (.rptr b i o) => match lkb m b with
      | .rows _ _ _ => K (.one (.rptr b i o)) [] n []
      | _ => False
    | _ => False
  | .lookup t x k ok => lookupW T P t l m n x k ok K
  | .insert t x k y => insertW T P t l m n x k y K
  | .mapUpdate t x k y => insertW T P t l m n x k y K
  | .sliceToArrayPointer t x => match lkt T t with
    | some ti => match ti.kind with
      | .arr c e => match lkt T e with
        | some te => match Nat.beq te.size 0 with
          | true => False
          | false => match ev l x with
            | .one (.dv (.lst sz rows)) => match Nat.beq sz te.size with
              | true => (0 < c ∧ c ≤ rows.length) ∧ K (.one (.iptr rows.flatten)) [] n []
              | false => False
            | _ => False
        | none => False
      | _ => False
    | none => False
  | .call c => match c.callee with
    | .builtin .len => match c.args.toList with
      | [x] => match c.argTypes.toList with
        | t :: _ => match lkt T t with
          | some ti => lenW m ti (ev l x) fun i ft => K (.one (.dv (.int .i64 i))) [] n ft
          | none => False
        | _ => False
      | _ => False
    | .builtin .append => match c.args.toList with
      | [x, y] => match c.argTypes.toList with
        | [t, t'] => match Nat.beq t t' with
          | false => False
          | true => match lkt T t with
            | some ti => appendW T ti (evT T t l x) (evT T t l y) m n K
            | none => False
        | _ => False
      | _ => False
    | .builtin .copy => match c.args.toList with
      | [x, y] => match c.argTypes.toList with
        | [t, t'] => match lkt T t with
          | some ti => copyW T ti (evT T t l x) (evT T t' l y) m n K
          | none => False
        | _ => False
      | _ => False
    | .builtin .max => match c.args.toList with
      | [x, y] => match ev l x with
        | .one (.dv (.int k a)) => match ev l y with
          | .one (.dv (.int _ b)) => K (.one (.dv (.int k (max a b)))) [] n []
          | _ => False
        | _ => False
      | [x, y, z, u] => int4 l x y z u fun k a b c d => K (.one (.dv (.int k (max (max (max a b) c) d)))) [] n []
      | _ => False
    | .builtin .min => match c.args.toList with
      | [x, y] => match ev l x with
        | .one (.dv (.int k a)) => match ev l y with
          | .one (.dv (.int _ b)) => K (.one (.dv (.int k (min a b)))) [] n []
          | _ => False
        | _ => False
      | [x, y, z, u] => int4 l x y z u fun k a b c d => K (.one (.dv (.int k (min (min (min a b) c) d)))) [] n []
      | _ => False
    | .value f => match ev l f with
      | .one (.fn f caps) => match Nat.blt f 1000000 with
        | true => callW P f m n (evTs T l c.argTypes.toList c.args.toList ++ caps.map fun p => .one (.vptr p.1 p.2)) K
        | false => callW P (Nat.sub f 1000000) m n ((caps.map fun p => .one (.vptr p.1 p.2)) ++ evTs T l c.argTypes.toList c.args.toList) K
      | _ => False
    | _ => False
  | _ => False
end
end Eng
