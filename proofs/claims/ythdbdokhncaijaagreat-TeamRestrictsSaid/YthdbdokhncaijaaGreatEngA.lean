/- The abstract machine: data, slot values, boxes; how they lie in the model's memory. No program in sight. -/
import Derived.Test.YthdbdokhncaijaaGreatEngV
import Derived.WalkKit
import Derived.Orders
import Derived.Maps.AppendAt
import Derived.Deep.AppendLies
import Derived.Deep.Draws
import Derived.KernelRfl
namespace Eng
open Go Go.RowKit

/-- Deep data that nobody changes. -/
inductive DV where
  | int (k : IntKind) (n : Int)
  | bool (b : Bool)
  | str (s : ByteArray)
  | lst (sz : Nat) (rows : List (List DV))
  /-- a nil slice -/
  | nul (sz : Nat)

/-- What a cell or a one-cell slot holds. -/
inductive CV where
  | bot
  | nil (sz : Nat)
  | dv (d : DV)
  | vptr (b off : Nat)
  | row (b : Nat)
  | rptr (b i off : Nat)
  | iptr (cells : List DV)
  | fn (f : Nat) (caps : List (Nat × Nat))
  /-- some truth value; where it is true, so is 'p' -/
  | anyb (p : Prop)
  /-- the rows of a row from 'a' on, as a slice -/
  | rsl (b a : Nat)
  /-- the first k rows of a row, as a slice -/
  | rpx (b k : Nat)
  /-- the first k cells of an array variable of c cells, as a slice -/
  | avw (b k c : Nat)
  /-- a nil pointer -/
  | npt

/-- What a slot holds. -/
inductive SV where
  | bot
  | one (c : CV)
  | agg (cs : List CV)
  | tup (vs : List (Bool × List CV))

inductive Box where
  | dead
  | vars (t : Nat) (cells : List CV)
  | rows (t sz : Nat) (rs : List (List DV))
  /-- rows, of which the last one is open: its cells may name boxes -/
  | orow (t sz : Nat) (rs : List (List DV)) (last : List CV)
  /-- a text that is ranged over, and the place -/
  | iter (s : ByteArray) (pos : Nat)
  /-- a map: keys and values, each as one cell or (true) as several -/
  | mp (es : List ((Bool × List DV) × (Bool × List DV)))

structure St where
  tmps : List (Nat × SV)
  mem : List (Nat × Box)
  next : Nat

def lk : List (Nat × SV) → Nat → SV
  | [], _ => .bot
  | (j, v) :: l, i => bif Nat.beq j i then v else lk l i
def lkb : List (Nat × Box) → Nat → Box
  | [], _ => .dead
  | (j, v) :: l, i => bif Nat.beq j i then v else lkb l i

theorem lk_cons (j : Nat) (v : SV) (l : List (Nat × SV)) (i : Nat) : lk ((j, v) :: l) i = if j = i then v else lk l i := by
  simp only [lk]
  by_cases h : j = i
  · subst h; simp
  · rw [if_neg h]
    have : Nat.beq j i = false := by
      rcases hb : Nat.beq j i with _ | _
      · rfl
      · exact absurd (Nat.eq_of_beq_eq_true hb) h
    rw [this]; rfl
theorem lkb_cons (j : Nat) (v : Box) (l : List (Nat × Box)) (i : Nat) : lkb ((j, v) :: l) i = if j = i then v else lkb l i := by
  simp only [lkb]
  by_cases h : j = i
  · subst h; simp
  · rw [if_neg h]
    have : Nat.beq j i = false := by
      rcases hb : Nat.beq j i with _ | _
      · rfl
      · exact absurd (Nat.eq_of_beq_eq_true hb) h
    rw [this]; rfl

def All2 {α β : Type} (R : α → β → Prop) : List α → List β → Prop
  | [], [] => True
  | a :: l, b :: r => R a b ∧ All2 R l r
  | _, _ => False

section all2
variable {α β : Type} {R R' : α → β → Prop}
theorem All2.mono {l : List α} {r : List β} (h : All2 R l r) (hr : ∀ a ∈ l, ∀ b, R a b → R' a b) : All2 R' l r := by
  induction l generalizing r with
  | nil => cases r with
    | nil => trivial
    | cons => exact h.elim
  | cons a l ih => cases r with
    | nil => exact h.elim
    | cons b r => exact ⟨hr a (by simp) b h.1, ih h.2 fun x hx => hr x (by simp [hx])⟩
theorem All2.length {l : List α} {r : List β} (h : All2 R l r) : l.length = r.length := by
  induction l generalizing r with
  | nil => cases r with
    | nil => rfl
    | cons => exact h.elim
  | cons a l ih => cases r with
    | nil => exact h.elim
    | cons b r => simp [ih h.2]
theorem All2.get {l : List α} {r : List β} (h : All2 R l r) {i : Nat} {a : α} (ha : l[i]? = some a) : ∃ b, r[i]? = some b ∧ R a b := by
  induction l generalizing r i with
  | nil => simp at ha
  | cons x l ih => cases r with
    | nil => exact h.elim
    | cons b r => cases i with
      | zero => simp at ha; subst ha; exact ⟨b, rfl, h.1⟩
      | succ i => simp at ha; simpa using ih h.2 ha
theorem All2.mk {l : List α} {r : List β} (hl : l.length = r.length) (h : ∀ (i : Nat) (a : α) (b : β), l[i]? = some a → r[i]? = some b → R a b) : All2 R l r := by
  induction l generalizing r with
  | nil => cases r with
    | nil => trivial
    | cons => simp at hl
  | cons a l ih => cases r with
    | nil => simp at hl
    | cons b r => exact ⟨h 0 a b rfl rfl, ih (by simpa using hl) fun i x y hx hy => h (i + 1) x y (by simpa using hx) (by simpa using hy)⟩
theorem All2.append {l l' : List α} {r r' : List β} (h : All2 R l r) (h' : All2 R l' r') : All2 R (l ++ l') (r ++ r') := by
  induction l generalizing r with
  | nil => cases r with
    | nil => exact h'
    | cons => exact h.elim
  | cons a l ih => cases r with
    | nil => exact h.elim
    | cons b r => exact ⟨h.1, ih h.2⟩
theorem All2.take {l : List α} {r : List β} (h : All2 R l r) (n : Nat) : All2 R (l.take n) (r.take n) := by
  induction l generalizing r n with
  | nil => cases r with
    | nil => simp [All2]
    | cons => exact h.elim
  | cons a l ih => cases r with
    | nil => exact h.elim
    | cons b r => cases n with
      | zero => simp [All2]
      | succ n => exact ⟨h.1, ih h.2 n⟩
theorem All2.drop {l : List α} {r : List β} (h : All2 R l r) (n : Nat) : All2 R (l.drop n) (r.drop n) := by
  induction l generalizing r n with
  | nil => cases r with
    | nil => simp [All2]
    | cons => exact h.elim
  | cons a l ih => cases r with
    | nil => exact h.elim
    | cons b r => cases n with
      | zero => exact h
      | succ n => simpa using ih h.2 n
end all2

/-- 'v' reads as 'd', by blocks of 'N' alone. -/
inductive DRd (w : World) (N : Nat → Prop) : DV → Value → Prop
  | int (k : IntKind) (n : Int) : DRd w N (.int k n) (.int k n)
  | bool (b : Bool) : DRd w N (.bool b) (.bool b)
  | str (s : ByteArray) : DRd w N (.str s) (.string s)
  | lst (sz : Nat) (rows : List (List DV)) (A : Option Addr) (cap : Nat) (us : Nat → Value) (hsz : ∀ r ∈ rows, r.length = sz) (hcap : rows.length ≤ cap)
      (hA : rows ≠ [] → ∃ ad, A = some ad ∧ N ad.block) (hc : ∀ ad, A = some ad → ∀ j d, rows.flatten[j]? = some d → w.cell? (ad.add j) = some (us j))
      (hd : ∀ j d, rows.flatten[j]? = some d → DRd w N d (us j)) : DRd w N (.lst sz rows) (.slice A rows.length cap)
  | nul (sz : Nat) : DRd w N (.nul sz) (.slice none 0 0)

theorem DRd.nilS (w : World) (N : Nat → Prop) (sz : Nat) : DRd w N (.lst sz []) (.slice none 0 0) :=
  .lst sz [] none 0 (fun _ => undef) (by simp) (by simp) (by simp) (by simp) (by simp)

theorem addr_block (a : Addr) (n : Nat) : (a.add n).block = a.block := by unfold Addr.add; split <;> rfl
theorem addr_add (a : Addr) (i j : Nat) : (a.add i).add j = a.add (i + j) := by
  unfold Addr.add
  by_cases hi : i = 0 <;> by_cases hj : j = 0 <;> simp [hi, hj, Nat.add_assoc]
theorem addr_mk (g n k : Nat) : (⟨g, n, none⟩ : Addr).add k = ⟨g, n + k, none⟩ := by
  unfold Addr.add; split
  · rename_i h; simp
  · rfl

theorem DRd.mono {w w' : World} {N N' : Nat → Prop} (hN : ∀ g, N g → N' g) (hw : ∀ g, N g → w'.heap[g]? = w.heap[g]?) {d : DV} {v : Value} (h : DRd w N d v) : DRd w' N' d v := by
  induction h with
  | int k n => exact .int k n
  | bool b => exact .bool b
  | str s => exact .str s
  | nul sz => exact .nul sz
  | lst sz rows A cap us hsz hcap hA hc hd ih =>
    refine .lst sz rows A cap us hsz hcap (fun hne => ?_) (fun ad had j d hj => ?_) ih
    · obtain ⟨ad, h1, h2⟩ := hA hne
      exact ⟨ad, h1, hN _ h2⟩
    · obtain ⟨ad', h1, h2⟩ := hA (by rintro rfl; simp at hj)
      have : ad' = ad := by rw [h1] at had; injection had
      subst this
      rw [World.cell?_of_block (w := w) (by rw [addr_block]; exact hw _ h2)]
      exact hc _ had j d hj

/-- every value that reads as data is one cell. -/
theorem DRd.oneCell {w : World} {N : Nat → Prop} {d : DV} {v : Value} (h : DRd w N d v) : v.oneCell' = true := by
  cases h <;> rfl

/-- The block at which a box's own value points. -/
def blk : Value → Option Nat
  | .slice (some a) _ _ => some a.block
  | .pointer (some a) => some a.block
  | .map (some g) => some g
  | _ => none

/-- the cells of a row's element -/
def rowSz : Box → Option Nat
  | .rows _ sz _ => some sz
  | .orow _ sz _ _ => some sz
  | _ => none
/-- a function value: from a million on, the values stand ahead of the arguments -/
def fnV (f : Nat) (vs : Array Value) : Value := match Nat.blt f 1000000 with
  | true => .func (.func f) #[] vs
  | false => .func (.func (f - 1000000)) vs #[]
theorem fnV_one (f : Nat) (vs : Array Value) : (fnV f vs).oneCell' = true := by unfold fnV; split <;> rfl
/-- Blocks that nobody turns: of 'Z', and no box's own. -/
def Imm (Z : Nat → Prop) (m : List (Nat × Box)) (β : Nat → Value) (w : World) (g : Nat) : Prop := g < w.heap.size ∧ (∀ b, lkb m b ≠ .dead → blk (β b) ≠ some g) ∧ Z g

def CRd (w : World) (N : Nat → Prop) (m : List (Nat × Box)) (β : Nat → Value) : CV → Value → Prop
  | .bot, v => v.oneCell' = true
  | .nil _, v => v = .slice none 0 0
  | .dv d, v => DRd w N d v
  | .vptr b off, v => v.oneCell' = true ∧ (lkb m b ≠ .dead → ∃ g, β b = .pointer (some ⟨g, 0, none⟩) ∧ v = .pointer (some ⟨g, off, none⟩))
  | .row b, v => v.oneCell' = true ∧ (lkb m b ≠ .dead → v = β b)
  | .rptr b i off, v => v.oneCell' = true ∧ ∀ sz, rowSz (lkb m b) = some sz → ∃ g n c, β b = .slice (some ⟨g, 0, none⟩) n c ∧ v = .pointer (some ⟨g, i * sz + off, none⟩)
  | .iptr cells, v => ∃ ad, v = .pointer (some ad) ∧ N ad.block ∧ ∀ j d, cells[j]? = some d → ∃ u, w.cell? (ad.add j) = some u ∧ DRd w N d u
  | .fn f caps, v => ∃ vs, v = fnV f vs ∧ All2 (fun (p : Nat × Nat) u => u.oneCell' = true ∧ (lkb m p.1 ≠ .dead → ∃ g, β p.1 = .pointer (some ⟨g, 0, none⟩) ∧ u = .pointer (some ⟨g, p.2, none⟩))) caps vs.toList
  | .anyb p, v => ∃ b, v = .bool b ∧ (b = true → p)
  | .rsl b x, v => v.oneCell' = true ∧ ∀ sz, rowSz (lkb m b) = some sz → ∃ A n c, β b = .slice A n c ∧ v = .slice (if c = x then A else A.map (·.add (x * sz))) (n - x) (c - x)
  | .rpx b k, v => v.oneCell' = true ∧ ∀ sz, rowSz (lkb m b) = some sz → ∃ A n c, β b = .slice A n c ∧ v = .slice A k c
  | .avw b k c, v => v.oneCell' = true ∧ (lkb m b ≠ .dead → ∃ g, β b = .pointer (some ⟨g, 0, none⟩) ∧ v = .slice (some ⟨g, 0, none⟩) k c)
  | .npt, v => v = .pointer none

def SRd (w : World) (N : Nat → Prop) (m : List (Nat × Box)) (β : Nat → Value) : SV → Value → Prop
  | .bot, _ => True
  | .one c, v => CRd w N m β c v
  | .agg cs, v => ∃ vs, v = .agg vs ∧ All2 (CRd w N m β) cs vs.toList
  | .tup ts, v => ∃ vs, v = .tuple vs ∧ All2 (fun (t : Bool × List CV) u => match t.1 with
      | true => ∃ us, u = .agg us ∧ All2 (CRd w N m β) t.2 us.toList
      | false => ∃ c, t.2 = [c] ∧ CRd w N m β c u) ts vs.toList

/-- a whole value that is data: one cell, or several -/
def VRd (w : World) (N : Nat → Prop) (p : Bool × List DV) (v : Value) : Prop := match p.1 with
  | true => ∃ us, v = .agg us ∧ All2 (DRd w N) p.2 us.toList
  | false => ∃ d, p.2 = [d] ∧ DRd w N d v
theorem VRd.mono {w w' : World} {N N' : Nat → Prop} (hN : ∀ g, N g → N' g) (hw : ∀ g, N g → w'.heap[g]? = w.heap[g]?) {p : Bool × List DV} {v : Value} (h : VRd w N p v) : VRd w' N' p v := by
  obtain ⟨b, ds⟩ := p
  cases b
  · obtain ⟨d, e, h⟩ := h; exact ⟨d, e, h.mono hN hw⟩
  · obtain ⟨us, e, h⟩ := h; exact ⟨us, e, h.mono fun d _ v hv => hv.mono hN hw⟩
def BRd (w : World) (N : Nat → Prop) (m : List (Nat × Box)) (β : Nat → Value) : Box → Value → Prop
  | .dead, _ => True
  | .vars t cells, v => ∃ g cs, v = .pointer (some ⟨g, 0, none⟩) ∧ w.heap[g]? = some (.cells cs t (0, 0)) ∧ All2 (CRd w N m β) cells cs.toList
  | .rows t sz rs, v => ∃ xs, w.ownsRow 0 t sz v rs.length xs ∧ (∀ r ∈ rs, r.length = sz) ∧ All2 (DRd w N) rs.flatten xs
  | .orow t sz rs last, v => ∃ xs ys, w.ownsRow 0 t sz v (rs.length + 1) (xs ++ ys) ∧ (∀ r ∈ rs, r.length = sz) ∧ last.length = sz ∧ All2 (DRd w N) rs.flatten xs ∧ All2 (CRd w N m β) last ys
  | .iter s pos, v => ∃ g, v = .pointer (some ⟨g, 0, none⟩) ∧ w.heap[g]? = some (.stringIter s pos)
  | .mp es, v => ∃ g arr clock, v = .map (some g) ∧ w.heap[g]? = some (.map arr clock) ∧ All2 (fun (e : (Bool × List DV) × (Bool × List DV)) (x : MapEntry) => VRd w N e.1 x.key ∧ VRd w N e.2 x.val) es arr.toList

theorem CRd.oneCell {w : World} {N : Nat → Prop} {m : List (Nat × Box)} {β : Nat → Value} {c : CV} {v : Value} (h : CRd w N m β c v) : v.oneCell' = true := by
  cases c with
  | bot => exact h
  | nil => simp only [CRd] at h; subst h; rfl
  | dv d => exact DRd.oneCell h
  | vptr b off => exact h.1
  | row b => exact h.1
  | rptr b i off => exact h.1
  | iptr cells => obtain ⟨ad, e, _⟩ := h; subst e; rfl
  | fn f caps => obtain ⟨vs, e, _⟩ := h; subst e; exact fnV_one _ _
  | anyb p => obtain ⟨b, e, _⟩ := h; subst e; rfl
  | rsl b x => exact h.1
  | rpx b x => exact h.1
  | avw b k c => exact h.1
  | npt => simp only [CRd] at h; subst h; rfl

/-- All boxes that a value names are in 'A'. -/
def RefC (A : Nat → Prop) : CV → Prop
  | .vptr b _ => A b
  | .row b => A b
  | .rptr b _ _ => A b
  | .rsl b _ => A b
  | .rpx b _ => A b
  | .avw b _ _ => A b
  | .fn _ caps => ∀ p ∈ caps, A p.1
  | _ => True
def RefCs (A : Nat → Prop) (cs : List CV) : Prop := ∀ c ∈ cs, RefC A c
def RefS (A : Nat → Prop) : SV → Prop
  | .bot => True
  | .one c => RefC A c
  | .agg cs => RefCs A cs
  | .tup ts => ∀ t ∈ ts, RefCs A t.2
def RefB (A : Nat → Prop) : Box → Prop
  | .vars _ cells => RefCs A cells
  | .orow _ _ _ last => RefCs A last
  | _ => True
theorem RefC.mono {A A' : Nat → Prop} (hA : ∀ b, A b → A' b) {c : CV} (h : RefC A c) : RefC A' c := by
  cases c <;> simp only [RefC] at h ⊢ <;> first | trivial | exact hA _ h | exact fun p hp => hA _ (h p hp)
theorem RefCs.mono {A A' : Nat → Prop} (hA : ∀ b, A b → A' b) {cs : List CV} (h : RefCs A cs) : RefCs A' cs := fun c hc => (h c hc).mono hA
theorem RefS.mono {A A' : Nat → Prop} (hA : ∀ b, A b → A' b) {c : SV} (h : RefS A c) : RefS A' c := by
  cases c <;> simp only [RefS] at h ⊢
  · exact RefC.mono hA h
  · exact RefCs.mono hA h
  · exact fun t ht => (h t ht).mono hA
theorem RefB.mono {A A' : Nat → Prop} (hA : ∀ b, A b → A' b) {c : Box} (h : RefB A c) : RefB A' c := by
  cases c <;> simp only [RefB] at h ⊢ <;> exact RefCs.mono hA h

/- the same, reckoned: all names are below 'n' -/
def refC : CV → Nat → Bool
  | .vptr b _, n => Nat.blt b n
  | .row b, n => Nat.blt b n
  | .rptr b _ _, n => Nat.blt b n
  | .rsl b _, n => Nat.blt b n
  | .rpx b _, n => Nat.blt b n
  | .avw b _ _, n => Nat.blt b n
  | .fn _ caps, n => caps.all fun p => Nat.blt p.1 n
  | _, _ => true
def refS : SV → Nat → Bool
  | .bot, _ => true
  | .one c, n => refC c n
  | .agg cs, n => cs.all fun c => refC c n
  | .tup ts, n => ts.all fun t => t.2.all fun c => refC c n
def refB : Box → Nat → Bool
  | .vars _ cells, n => cells.all fun c => refC c n
  | .orow _ _ _ last, n => last.all fun c => refC c n
  | _, _ => true
def okT (n : Nat) : List (Nat × SV) → Bool
  | [] => true
  | (_, v) :: l => refS v n && okT n l
def okM (n : Nat) : List (Nat × Box) → Bool
  | [] => true
  | (b, x) :: l => Nat.blt b n && refB x n && okM n l
/-- No slot and no box names a box that is still to come. -/
def St.ok (s : St) : Bool := okT s.next s.tmps && okM s.next s.mem

theorem blt_iff {a b : Nat} : Nat.blt a b = true ↔ a < b := by
  constructor
  · intro h; exact Nat.le_of_ble_eq_true h
  · intro h; exact Nat.ble_eq_true_of_le h
theorem refC_spec {c : CV} {n : Nat} (h : refC c n = true) : RefC (· < n) c := by
  cases c <;> simp only [refC, RefC] at h ⊢ <;> first | trivial | exact blt_iff.1 h | skip
  rw [List.all_eq_true] at h
  exact fun p hp => blt_iff.1 (h p hp)
theorem refS_spec {v : SV} {n : Nat} (h : refS v n = true) : RefS (· < n) v := by
  cases v <;> simp only [refS, RefS] at h ⊢
  · exact refC_spec h
  · rw [List.all_eq_true] at h; exact fun c hc => refC_spec (h c hc)
  · rw [List.all_eq_true] at h
    intro t ht c hc
    have := h t ht
    rw [List.all_eq_true] at this; exact refC_spec (this c hc)
theorem refB_spec {v : Box} {n : Nat} (h : refB v n = true) : RefB (· < n) v := by
  cases v <;> simp only [refB, RefB] at h ⊢ <;> (rw [List.all_eq_true] at h; exact fun c hc => refC_spec (h c hc))
theorem okT_spec {n : Nat} {l : List (Nat × SV)} (h : okT n l = true) (i : Nat) : RefS (· < n) (lk l i) := by
  induction l with
  | nil => trivial
  | cons p l ih =>
    obtain ⟨j, v⟩ := p
    simp only [okT, Bool.and_eq_true] at h
    rw [lk_cons]; split
    · exact refS_spec h.1
    · exact ih h.2
theorem okM_spec {n : Nat} {l : List (Nat × Box)} (h : okM n l = true) (i : Nat) : RefB (· < n) (lkb l i) ∧ (lkb l i ≠ .dead → i < n) := by
  induction l with
  | nil => exact ⟨trivial, fun h => absurd rfl h⟩
  | cons p l ih =>
    obtain ⟨j, v⟩ := p
    simp only [okM, Bool.and_eq_true] at h
    rw [lkb_cons]; split
    · rename_i e; subst e
      exact ⟨refB_spec h.1.2, fun _ => blt_iff.1 h.1.1⟩
    · exact ih h.2

/-- What may become of memory, the readings of a value being kept: 'A' holds the boxes that it names. -/
structure Keep (A : Nat → Prop) (w w' : World) (N N' : Nat → Prop) (m m' : List (Nat × Box)) (β β' : Nat → Value) : Prop where
  imm : ∀ g, N g → N' g
  heap : ∀ g, N g → w'.heap[g]? = w.heap[g]?
  box : ∀ b, A b → lkb m' b ≠ .dead → lkb m b ≠ .dead ∧ β' b = β b ∧ ∀ sz, rowSz (lkb m' b) = some sz → rowSz (lkb m b) = some sz

section keep
variable {A : Nat → Prop} {w w' : World} {N N' : Nat → Prop} {m m' : List (Nat × Box)} {β β' : Nat → Value}
theorem Keep.d (K : Keep A w w' N N' m m' β β') {d : DV} {v : Value} (h : DRd w N d v) : DRd w' N' d v := h.mono K.imm K.heap
theorem Keep.c (K : Keep A w w' N N' m m' β β') {c : CV} {v : Value} (hr : RefC A c) (h : CRd w N m β c v) : CRd w' N' m' β' c v := by
  cases c with
  | bot => exact h
  | nil => exact h
  | dv d => exact K.d h
  | vptr b off =>
    refine ⟨h.1, fun hd => ?_⟩
    obtain ⟨h1, h2, _⟩ := K.box b hr hd
    obtain ⟨g, e1, e2⟩ := h.2 h1
    exact ⟨g, h2.trans e1, e2⟩
  | avw b k c =>
    refine ⟨h.1, fun hd => ?_⟩
    obtain ⟨h1, h2, _⟩ := K.box b hr hd
    obtain ⟨g, e1, e2⟩ := h.2 h1
    exact ⟨g, h2.trans e1, e2⟩
  | row b =>
    refine ⟨h.1, fun hd => ?_⟩
    obtain ⟨h1, h2, _⟩ := K.box b hr hd
    exact (h.2 h1).trans h2.symm
  | rptr b i off =>
    refine ⟨h.1, fun sz hd => ?_⟩
    obtain ⟨h1, h2, h3⟩ := K.box b hr (by intro e; rw [e] at hd; cases hd)
    obtain ⟨g, n, c, e1, e2⟩ := h.2 sz (h3 sz hd)
    exact ⟨g, n, c, h2.trans e1, e2⟩
  | rsl b x =>
    refine ⟨h.1, fun sz hd => ?_⟩
    obtain ⟨h1, h2, h3⟩ := K.box b hr (by intro e; rw [e] at hd; cases hd)
    obtain ⟨A, n, c, e1, e2⟩ := h.2 sz (h3 sz hd)
    exact ⟨A, n, c, h2.trans e1, e2⟩
  | rpx b x =>
    refine ⟨h.1, fun sz hd => ?_⟩
    obtain ⟨h1, h2, h3⟩ := K.box b hr (by intro e; rw [e] at hd; cases hd)
    obtain ⟨A, n, c, e1, e2⟩ := h.2 sz (h3 sz hd)
    exact ⟨A, n, c, h2.trans e1, e2⟩
  | npt => exact h
  | iptr cells =>
    obtain ⟨ad, e, hb, hc⟩ := h
    refine ⟨ad, e, K.imm _ hb, fun j d hj => ?_⟩
    obtain ⟨u, h1, h2⟩ := hc j d hj
    exact ⟨u, (World.cell?_of_block (by rw [addr_block]; exact K.heap _ hb)).trans h1, K.d h2⟩
  | fn f caps =>
    obtain ⟨vs, e, hc⟩ := h
    refine ⟨vs, e, hc.mono fun p hp u hu => ⟨hu.1, fun hd => ?_⟩⟩
    obtain ⟨h1, h2, _⟩ := K.box p.1 (hr p hp) hd
    obtain ⟨g, e1, e2⟩ := hu.2 h1
    exact ⟨g, h2.trans e1, e2⟩
  | anyb p => exact h
theorem Keep.cs (K : Keep A w w' N N' m m' β β') {cs : List CV} {vs : List Value} (hr : RefCs A cs) (h : All2 (CRd w N m β) cs vs) : All2 (CRd w' N' m' β') cs vs :=
  h.mono fun c hc _ hv => K.c (hr c hc) hv
theorem Keep.s (K : Keep A w w' N N' m m' β β') {c : SV} {v : Value} (hr : RefS A c) (h : SRd w N m β c v) : SRd w' N' m' β' c v := by
  cases c with
  | bot => trivial
  | one c => exact K.c hr h
  | agg cs =>
    obtain ⟨vs, e, h⟩ := h
    exact ⟨vs, e, K.cs hr h⟩
  | tup ts =>
    obtain ⟨vs, e, h⟩ := h
    refine ⟨vs, e, h.mono fun t ht u hu => ?_⟩
    have hr' : RefCs A t.2 := hr t ht
    obtain ⟨b, cs⟩ := t
    cases b
    · obtain ⟨c, e1, e2⟩ := hu
      simp only at e1 e2 hr'
      subst e1
      exact ⟨c, rfl, K.c (hr' c (by simp)) e2⟩
    · obtain ⟨us, e1, e2⟩ := hu
      exact ⟨us, e1, K.cs hr' e2⟩
/-- a box that has not turned -/
theorem Keep.b (K : Keep A w w' N N' m m' β β') {x : Box} {v : Value} (hr : RefB A x) (hb : ∀ g, blk v = some g → w'.heap[g]? = w.heap[g]?) (h : BRd w N m β x v) : BRd w' N' m' β' x v := by
  cases x with
  | dead => trivial
  | vars t cells =>
    obtain ⟨g, cs, e, hg, ha⟩ := h
    subst e
    exact ⟨g, cs, rfl, (hb g rfl).trans hg, K.cs hr ha⟩
  | rows t sz rs =>
    obtain ⟨xs, ho, hl, ha⟩ := h
    refine ⟨xs, ⟨ho.1, ?_⟩, hl, ha.mono fun d _ v hv => K.d hv⟩
    rcases ho.2 with hn | ⟨g, cap, cur, e, h0, hg, rest⟩
    · exact .inl hn
    · subst e
      exact .inr ⟨g, cap, cur, rfl, h0, (hb g rfl).trans hg, rest⟩
  | orow t sz rs last =>
    obtain ⟨xs, ys, ho, hl, hll, ha, hla⟩ := h
    refine ⟨xs, ys, ⟨ho.1, ?_⟩, hl, hll, ha.mono fun d _ v hv => K.d hv, K.cs hr hla⟩
    rcases ho.2 with hn | ⟨g, cap, cur, e, h0, hg, rest⟩
    · exact .inl hn
    · subst e
      exact .inr ⟨g, cap, cur, rfl, h0, (hb g rfl).trans hg, rest⟩
  | iter s pos =>
    obtain ⟨g, e, hg⟩ := h
    subst e
    exact ⟨g, rfl, (hb g rfl).trans hg⟩
  | mp es =>
    obtain ⟨g, arr, clock, e, hg, ha⟩ := h
    subst e
    exact ⟨g, arr, clock, rfl, (hb g rfl).trans hg, ha.mono fun e _ x hx => ⟨hx.1.mono K.imm K.heap, hx.2.mono K.imm K.heap⟩⟩
end keep

theorem BRd.lt {w : World} {N : Nat → Prop} {m : List (Nat × Box)} {β : Nat → Value} {x : Box} {v : Value} (h : BRd w N m β x v) (hx : x ≠ .dead) {g : Nat} (hg : blk v = some g) : g < w.heap.size := by
  cases x with
  | dead => exact absurd rfl hx
  | vars t cells =>
    obtain ⟨g', cs, e, hh, _⟩ := h
    subst e
    simp only [blk, Option.some.injEq] at hg
    subst hg
    exact (Array.getElem?_eq_some_iff.1 hh).1
  | rows t sz rs =>
    obtain ⟨xs, ho, _⟩ := h
    rcases ho.2 with ⟨e, _⟩ | ⟨g', cap, cur, e, h0, hh, rest⟩
    · subst e; simp [blk] at hg
    · subst e
      simp only [blk, Option.some.injEq] at hg
      subst hg
      exact (Array.getElem?_eq_some_iff.1 hh).1
  | orow t sz rs last =>
    obtain ⟨xs, ys, ho, _⟩ := h
    rcases ho.2 with ⟨e, _⟩ | ⟨g', cap, cur, e, h0, hh, rest⟩
    · subst e; simp [blk] at hg
    · subst e
      simp only [blk, Option.some.injEq] at hg
      subst hg
      exact (Array.getElem?_eq_some_iff.1 hh).1
  | iter s pos =>
    obtain ⟨g', e, hh⟩ := h
    subst e
    simp only [blk, Option.some.injEq] at hg
    subst hg
    exact (Array.getElem?_eq_some_iff.1 hh).1
  | mp es =>
    obtain ⟨g', arr, clock, e, hh, _⟩ := h
    subst e
    simp only [blk, Option.some.injEq] at hg
    subst hg
    exact (Array.getElem?_eq_some_iff.1 hh).1

/-- The world 'w' as seen from the world 'w0' in which the call began: blocks of 'X', and new ones, alone have turned. -/
structure Ext (w0 : World) (X : Nat → Prop) (w : World) : Prop where
  os : w.os = w0.os
  tape : w.tape = w0.tape
  output : w.output = w0.output
  size : w0.heap.size ≤ w.heap.size
  block : ∀ g, g < w0.heap.size → ¬ X g → w.heap[g]? = w0.heap[g]?

def lkv : List (Nat × List Value) → Nat → Option (List Value)
  | [], _ => none
  | (j, v) :: l, i => bif Nat.beq j i then some v else lkv l i
def dvOf : Value → DV
  | .int k n => .int k n
  | .string s => .str s
  | .bool b => .bool b
  | _ => .nul 0
def plainV : Value → Bool
  | .int _ _ => true
  | .string _ => true
  | .bool _ => true
  | _ => false
theorem dvOf_rd {w : World} {N : Nat → Prop} {v : Value} (h : plainV v = true) : DRd w N (dvOf v) v := by
  cases v <;> first | (simp [plainV] at h; done) | exact .int _ _ | exact .str _ | exact .bool _
theorem glv_ok : (GLV.all fun p => p.2.all plainV) = true := by rfl
theorem lkv_mem : ∀ {l : List (Nat × List Value)} {g : Nat} {ss : List Value}, lkv l g = some ss → ∃ j, (j, ss) ∈ l
  | (j, v) :: l, g, ss, h => by
    rw [lkv] at h
    cases hb : Nat.beq j g with
    | true => rw [hb] at h; injection h with h; subst h; exact ⟨j, by simp⟩
    | false =>
      rw [hb] at h
      obtain ⟨i, hi⟩ := lkv_mem h
      exact ⟨i, by simp [hi]⟩
theorem glv_plain {g : Nat} {ss : List Value} (h : lkv GLV g = some ss) : ∀ v ∈ ss, plainV v = true := by
  obtain ⟨j, hj⟩ := lkv_mem h
  exact List.all_eq_true.1 (List.all_eq_true.1 glv_ok _ hj)
/-- what is known from the start: new blocks may be read; the listed package variables hold their texts -/
structure Kn (w0 : World) (X Z : Nat → Prop) : Prop where
  ge : ∀ g, w0.heap.size ≤ g → Z g
  glob : ∀ g ss, lkv GLV g = some ss → g < w0.heap.size ∧ ¬ X g ∧ Z g ∧ ∃ t fr, w0.heap[g]? = some (.cells ss.toArray t fr)
/-- Blocks that may be read; the boxes that were handed over ('np' of them), and where they lie. -/
structure Zt where
  p : Nat → Prop
  np : Nat
  at_ : Nat → Value

/-- The frame and the world bear the abstract state. -/
structure Rel (w0 : World) (X : Nat → Prop) (Z : Zt) (nt : Nat) (A : Nat → Prop) (l : List (Nat × SV)) (m : List (Nat × Box)) (β : Nat → Value) (a : Act) (w : World) : Prop where
  size : a.tmps.size = nt
  defers : a.defers = []
  refs : ∀ i, RefS A (lk l i)
  refb : ∀ b, RefB A (lkb m b) ∧ (lkb m b ≠ .dead → A b)
  slots : ∀ i, SRd w (Imm Z.p m β w) m β (lk l i) (a.tmps.getD i undef)
  boxes : ∀ b, BRd w (Imm Z.p m β w) m β (lkb m b) (β b)
  inj : ∀ b b' g, lkb m b ≠ .dead → lkb m b' ≠ .dead → blk (β b) = some g → blk (β b') = some g → b = b'
  own : ∀ b g, lkb m b ≠ .dead → blk (β b) = some g → w0.heap.size ≤ g ∨ X g
  ext : Ext w0 X w
  new : Kn w0 X Z.p
  pin : ∀ b, b < Z.np → A b ∧ (lkb m b ≠ .dead → β b = Z.at_ b)
  rown : ∀ b g, lkb m b ≠ .dead → blk (β b) = some g → Z.p g

section rel
variable {w0 : World} {X : Nat → Prop} {Z : Zt} {nt : Nat} {A : Nat → Prop} {l : List (Nat × SV)} {m : List (Nat × Box)} {β : Nat → Value} {a : Act} {w : World}

theorem Rel.globNow (h : Rel w0 X Z nt A l m β a w) {g : Nat} {ss : List Value} (hg : lkv GLV g = some ss) : Imm Z.p m β w g ∧ ∃ t fr, w.heap[g]? = some (.cells ss.toArray t fr) := by
  obtain ⟨h1, h2, h3, t, fr, h4⟩ := h.new.glob g ss hg
  refine ⟨⟨Nat.lt_of_lt_of_le h1 h.ext.size, fun b hb hgb => ?_, h3⟩, t, fr, by rw [h.ext.block g h1 h2]; exact h4⟩
  rcases h.own b g hb hgb with h5 | h5
  · omega
  · exact h2 h5
theorem glob_cell {w : World} {g t : Nat} {fr : Nat × Nat} {ss : List Value} (h : w.heap[g]? = some (.cells ss.toArray t fr)) {j : Nat} {v : Value} (hj : ss[j]? = some v) : w.cell? ⟨g, j, none⟩ = some v := by
  simp [World.cell?, h, hj]
theorem getD_set (t : Array Value) (d i : Nat) (v : Value) (hd : d < t.size) : (t.setIfInBounds d v).getD i undef = if d = i then v else t.getD i undef := by
  by_cases h : d = i
  · subst h; simp [Array.getD_eq_getD_getElem?, hd]
  · simp [Array.getD_eq_getD_getElem?, h]

theorem Rel.put (h : Rel w0 X Z nt A l m β a w) {d : Nat} (hd : d < nt) {v : SV} {u : Value} (hr : RefS A v) (hv : SRd w (Imm Z.p m β w) m β v u) :
    Rel w0 X Z nt A ((d, v) :: l) m β (a.put (some d) u) w where
  size := by simp [Act.put, h.size]
  defers := h.defers
  refs i := by
    rw [lk_cons]; split
    · exact hr
    · exact h.refs i
  refb := h.refb
  slots i := by
    show SRd _ _ _ _ _ ((a.tmps.setIfInBounds d u).getD i undef)
    rw [lk_cons, getD_set _ _ _ _ (by rw [h.size]; exact hd)]
    split
    · exact hv
    · exact h.slots i
  boxes := h.boxes
  inj := h.inj
  own := h.own
  ext := h.ext
  new := h.new
  pin := h.pin
  rown := h.rown

/-- Memory turns: 'C' holds the boxes that turn. -/
theorem Rel.turn (h : Rel w0 X Z nt A l m β a w) {A' : Nat → Prop} {m' : List (Nat × Box)} {β' : Nat → Value} {w' : World} (C : Nat → Prop) (hA : ∀ b, A b → A' b)
    (hrefb : ∀ b, C b → RefB A' (lkb m' b) ∧ (lkb m' b ≠ .dead → A' b))
    (hsame : ∀ b, ¬ C b → lkb m' b = lkb m b ∧ (lkb m' b ≠ .dead → β' b = β b))
    (hch : ∀ b, C b → A b → lkb m' b ≠ .dead → lkb m b ≠ .dead ∧ β' b = β b ∧ ∀ sz, rowSz (lkb m' b) = some sz → rowSz (lkb m b) = some sz)
    (hheap : ∀ g, g < w.heap.size → (∀ b, C b → lkb m b ≠ .dead → blk (β b) ≠ some g) → w'.heap[g]? = w.heap[g]?)
    (hblk : ∀ b g, C b → lkb m' b ≠ .dead → blk (β' b) = some g → w.heap.size ≤ g ∨ ∃ b', C b' ∧ lkb m b' ≠ .dead ∧ blk (β b') = some g)
    (hinj : ∀ b b' g, C b → C b' → lkb m' b ≠ .dead → lkb m' b' ≠ .dead → blk (β' b) = some g → blk (β' b') = some g → b = b')
    (hrow : ∀ b g, C b → lkb m' b ≠ .dead → blk (β' b) = some g → Z.p g)
    (hsz : w.heap.size ≤ w'.heap.size) (hos : w'.os = w.os) (htape : w'.tape = w.tape) (hout : w'.output = w.output)
    (hbox : Keep A w w' (Imm Z.p m β w) (Imm Z.p m' β' w') m m' β β' → ∀ b, C b → BRd w' (Imm Z.p m' β' w') m' β' (lkb m' b) (β' b)) :
    Rel w0 X Z nt A' l m' β' a w' ∧ Keep A w w' (Imm Z.p m β w) (Imm Z.p m' β' w') m m' β β' := by
  have K : Keep A w w' (Imm Z.p m β w) (Imm Z.p m' β' w') m m' β β' := by
    refine ⟨fun g hg => ⟨Nat.lt_of_lt_of_le hg.1 hsz, fun b hb hgb => ?_, hg.2.2⟩, fun g hg => hheap g hg.1 fun b _ hb => hg.2.1 b hb, fun b hb hd => ?_⟩
    · by_cases hC : C b
      · rcases hblk b g hC hb hgb with h1 | ⟨b', _, h2, h3⟩
        · have := hg.1; omega
        · exact hg.2.1 b' h2 h3
      · obtain ⟨e1, e2⟩ := hsame b hC
        exact hg.2.1 b (by rw [← e1]; exact hb) (by rw [← e2 hb]; exact hgb)
    · by_cases hC : C b
      · exact hch b hC hb hd
      · obtain ⟨e1, e2⟩ := hsame b hC
        exact ⟨by rw [← e1]; exact hd, e2 hd, fun sz e => by rw [← e1]; exact e⟩
  have hown : ∀ b g, C b → lkb m' b ≠ .dead → blk (β' b) = some g → w0.heap.size ≤ g ∨ X g := by
    intro b g hC hb hg
    rcases hblk b g hC hb hg with h1 | ⟨b', _, h2, h3⟩
    · exact .inl (Nat.le_trans h.ext.size h1)
    · exact h.own b' g h2 h3
  have hmix : ∀ b b' g, C b → ¬ C b' → lkb m' b ≠ .dead → lkb m' b' ≠ .dead → blk (β' b) = some g → blk (β' b') = some g → False := by
    intro b b' g hC hC' hb hb' hg hg'
    obtain ⟨e1, e2⟩ := hsame b' hC'
    rw [e2 hb'] at hg'
    rw [e1] at hb'
    have hlt := (h.boxes b').lt hb' hg'
    rcases hblk b g hC hb hg with h1 | ⟨b'', h0, h2, h3⟩
    · omega
    · have := h.inj b'' b' g h2 hb' h3 hg'
      subst this
      exact hC' h0
  refine ⟨⟨h.size, h.defers, fun i => (h.refs i).mono hA, fun b => ?_, fun i => K.s (h.refs i) (h.slots i), fun b => ?_, fun b b' g hb hb' hg hg' => ?_, fun b g hb hg => ?_, ?_, h.new, fun b hb => ⟨hA b (h.pin b hb).1, fun hd => ?_⟩, fun b g hb hg => ?_⟩, K⟩
  · by_cases hC : C b
    · exact hrefb b hC
    · rw [(hsame b hC).1]
      exact ⟨(h.refb b).1.mono hA, fun hd => hA _ ((h.refb b).2 hd)⟩
  · by_cases hC : C b
    · exact hbox K b hC
    · obtain ⟨e1, e2⟩ := hsame b hC
      by_cases hd : lkb m' b = .dead
      · rw [hd]; trivial
      · rw [e2 hd, e1]
        rw [e1] at hd
        refine K.b (h.refb b).1 (fun g hg => hheap g ((h.boxes b).lt hd hg) fun b' hC' hb' hg' => ?_) (h.boxes b)
        have := h.inj b b' g hd hb' hg hg'
        subst this
        exact hC hC'
  · by_cases hC : C b <;> by_cases hC' : C b'
    · exact hinj b b' g hC hC' hb hb' hg hg'
    · exact (hmix b b' g hC hC' hb hb' hg hg').elim
    · exact (hmix b' b g hC' hC hb' hb hg' hg).elim
    · obtain ⟨e1, e2⟩ := hsame b hC
      obtain ⟨e1', e2'⟩ := hsame b' hC'
      rw [e2 hb] at hg
      rw [e2' hb'] at hg'
      rw [e1] at hb
      rw [e1'] at hb'
      exact h.inj b b' g hb hb' hg hg'
  · by_cases hC : C b
    · exact hown b g hC hb hg
    · obtain ⟨e1, e2⟩ := hsame b hC
      rw [e2 hb] at hg
      rw [e1] at hb
      exact h.own b g hb hg
  · refine ⟨hos.trans h.ext.os, htape.trans h.ext.tape, hout.trans h.ext.output, Nat.le_trans h.ext.size hsz, fun g hg hX => ?_⟩
    rw [hheap g (Nat.lt_of_lt_of_le hg h.ext.size) fun b _ hb hgb => ?_]
    · exact h.ext.block g hg hX
    · rcases h.own b g hb hgb with h1 | h1
      · omega
      · exact hX h1
  · obtain ⟨h1, h2, _⟩ := K.box b (h.pin b hb).1 hd
    exact h2.trans ((h.pin b hb).2 h1)
  · by_cases hC : C b
    · exact hrow b g hC hb hg
    · obtain ⟨e1, e2⟩ := hsame b hC
      rw [e2 hb] at hg
      rw [e1] at hb
      exact h.rown b g hb hg
end rel

/-- The part of 'Rel' that speaks of memory. -/
structure MemRel (w0 : World) (X Z : Nat → Prop) (A : Nat → Prop) (m : List (Nat × Box)) (β : Nat → Value) (w : World) : Prop where
  refb : ∀ b, RefB A (lkb m b) ∧ (lkb m b ≠ .dead → A b)
  boxes : ∀ b, BRd w (Imm Z m β w) m β (lkb m b) (β b)
  inj : ∀ b b' g, lkb m b ≠ .dead → lkb m b' ≠ .dead → blk (β b) = some g → blk (β b') = some g → b = b'
  own : ∀ b g, lkb m b ≠ .dead → blk (β b) = some g → w0.heap.size ≤ g ∨ X g
  ext : Ext w0 X w
  new : Kn w0 X Z
  rown : ∀ b g, lkb m b ≠ .dead → blk (β b) = some g → Z g
theorem Rel.mem {w0 : World} {X : Nat → Prop} {Z : Zt} {nt : Nat} {A : Nat → Prop} {l : List (Nat × SV)} {m : List (Nat × Box)} {β : Nat → Value} {a : Act} {w : World} (h : Rel w0 X Z nt A l m β a w) : MemRel w0 X Z.p A m β w :=
  ⟨h.refb, h.boxes, h.inj, h.own, h.ext, h.new, h.rown⟩

def XOf (m : List (Nat × Box)) (β : Nat → Value) (g : Nat) : Prop := ∃ b, lkb m b ≠ .dead ∧ blk (β b) = some g

/- A function's contract: handed 'args' over the boxes 'mA' (named below 'nA'), it hands back 'sv' over the boxes 'mR' (named below 'nR'). -/
def entered (P : Program) (f : Nat) : Bool := match P.funcs[f]? with
  | some fn => fn.name != "runtime.NumGoroutine" && fn.body.isSome
  | none => false
def FnOk (P : Program) (f : Nat) (args : List SV) (mA : List (Nat × Box)) (nA : Nat) (sv : SV) (mR : List (Nat × Box)) (nR : Nat) : Prop :=
  entered P f = true ∧ ∀ (w : World) (Z : Nat → Prop) (vs : List Value) (β : Nat → Value), All2 (SRd w (Imm Z mA β w) mA β) args vs → MemRel w (XOf mA β) Z (· < nA) mA β w →
    Calls P f vs.toArray w fun e w' => ∃ v β', e = .returned v ∧ SRd w' (Imm Z mR β' w') mR β' sv v ∧ RefS (· < nR) sv ∧ MemRel w (XOf mA β) Z (· < nR) mR β' w' ∧ ∀ b, b < nA → lkb mR b ≠ .dead → β' b = β b

/- other names -/
def renC (ρ : Nat → Nat) : CV → CV
  | .vptr b off => .vptr (ρ b) off
  | .avw b k c => .avw (ρ b) k c
  | .row b => .row (ρ b)
  | .rptr b i off => .rptr (ρ b) i off
  | .rsl b x => .rsl (ρ b) x
  | .rpx b x => .rpx (ρ b) x
  | .npt => .npt
  | .fn f caps => .fn f (caps.map fun p => (ρ p.1, p.2))
  | .dv d => .dv d
  | .nil s => .nil s
  | .iptr c => .iptr c
  | .anyb p => .anyb p
  | .bot => .bot
def renS (ρ : Nat → Nat) : SV → SV
  | .bot => .bot
  | .one c => .one (renC ρ c)
  | .agg cs => .agg (cs.map (renC ρ))
  | .tup ts => .tup (ts.map fun t => (t.1, t.2.map (renC ρ)))
def renB (ρ : Nat → Nat) : Box → Box
  | .dead => .dead
  | .vars t cs => .vars t (cs.map (renC ρ))
  | .rows t sz rs => .rows t sz rs
  | .orow t sz rs last => .orow t sz rs (last.map (renC ρ))
  | .iter s pos => .iter s pos
  | .mp es => .mp es
def renM (ρ : Nat → Nat) (m : List (Nat × Box)) : List (Nat × Box) := m.map fun p => (ρ p.1, renB ρ p.2)

/- data without slices in it -/
def FlatD : DV → Prop
  | .lst _ _ => False
  | _ => True
def FlatC : CV → Prop
  | .dv d => FlatD d
  | .iptr _ => False
  | _ => True
def FlatS : SV → Prop
  | .bot => True
  | .one c => FlatC c
  | .agg cs => ∀ c ∈ cs, FlatC c
  | .tup ts => ∀ t ∈ ts, ∀ c ∈ t.2, FlatC c
def FlatB : Box → Prop
  | .dead => True
  | .vars _ cs => ∀ c ∈ cs, FlatC c
  | .rows _ _ rs => ∀ r ∈ rs, ∀ d ∈ r, FlatD d
  | .orow _ _ rs last => (∀ r ∈ rs, ∀ d ∈ r, FlatD d) ∧ ∀ c ∈ last, FlatC c
  | .iter _ _ => True
  | .mp es => ∀ e ∈ es, (∀ d ∈ e.1.2, FlatD d) ∧ ∀ d ∈ e.2.2, FlatD d
def FlatM : List (Nat × Box) → Prop
  | [] => True
  | (_, x) :: m => FlatB x ∧ FlatM m
theorem FlatM.lkb {m : List (Nat × Box)} (h : FlatM m) (b : Nat) : FlatB (lkb m b) := by
  induction m with
  | nil => trivial
  | cons p m ih =>
    obtain ⟨j, x⟩ := p
    rw [lkb_cons]; split
    · exact h.1
    · exact ih h.2

theorem All2.map_left {α α' β : Type} {R : α' → β → Prop} {f : α → α'} {l : List α} {r : List β} (h : All2 (fun a b => R (f a) b) l r) : All2 R (l.map f) r := by
  induction l generalizing r with
  | nil => cases r with
    | nil => trivial
    | cons => exact h.elim
  | cons a l ih => cases r with
    | nil => exact h.elim
    | cons b r => exact ⟨h.1, ih h.2⟩
theorem All2.of_map {α α' β : Type} {R : α' → β → Prop} {f : α → α'} {l : List α} {r : List β} (h : All2 R (l.map f) r) : All2 (fun a b => R (f a) b) l r := by
  induction l generalizing r with
  | nil => cases r with
    | nil => trivial
    | cons => exact h.elim
  | cons a l ih => cases r with
    | nil => exact h.elim
    | cons b r => exact ⟨h.1, ih h.2⟩

/-- The names of 'm1' (those of 'A') said in those of 'm2'. -/
structure Link (A : Nat → Prop) (ρ : Nat → Nat) (m1 : List (Nat × Box)) (β1 : Nat → Value) (m2 : List (Nat × Box)) (β2 : Nat → Value) : Prop where
  box : ∀ b, A b → lkb m2 (ρ b) = renB ρ (lkb m1 b)
  val : ∀ b, A b → lkb m1 b ≠ .dead → β2 (ρ b) = β1 b

section link
variable {A : Nat → Prop} {ρ : Nat → Nat} {m1 m2 : List (Nat × Box)} {β1 β2 : Nat → Value} {w : World} {N N' : Nat → Prop}
theorem renB_dead {x : Box} : renB ρ x ≠ .dead ↔ x ≠ .dead := by cases x <;> simp [renB]
theorem rowSz_ren {x : Box} : rowSz (renB ρ x) = rowSz x := by cases x <;> rfl
theorem DRd.flat {w : World} {N N' : Nat → Prop} {d : DV} {v : Value} (hf : FlatD d) (h : DRd w N d v) : DRd w N' d v := by
  cases h with
  | int k n => exact .int k n
  | bool b => exact .bool b
  | str s => exact .str s
  | nul s => exact .nul s
  | lst => exact hf.elim
theorem VRd.flat {w : World} {N N' : Nat → Prop} {p : Bool × List DV} {v : Value} (hf : ∀ d ∈ p.2, FlatD d) (h : VRd w N p v) : VRd w N' p v := by
  obtain ⟨b, ds⟩ := p
  cases b
  · obtain ⟨d, e, h⟩ := h
    simp only at e; subst e
    exact ⟨d, rfl, h.flat (hf d (by simp))⟩
  · obtain ⟨us, e, h⟩ := h
    exact ⟨us, e, h.mono fun d hd v hv => hv.flat (hf d hd)⟩
theorem Link.c (L : Link A ρ m1 β1 m2 β2) {c : CV} {v : Value} (hr : RefC A c) (hd : ∀ d, DRd w N d v → c = .dv d → DRd w N' d v) (hi : ∀ ds, c = .iptr ds → ∀ g, N g → N' g) (h : CRd w N m1 β1 c v) : CRd w N' m2 β2 (renC ρ c) v := by
  cases c with
  | bot => exact h
  | nil => exact h
  | dv d => exact hd d h rfl
  | vptr b off =>
    refine ⟨h.1, fun hl => ?_⟩
    have hl1 : lkb m1 b ≠ .dead := renB_dead.1 (L.box b hr ▸ hl)
    obtain ⟨g, e1, e2⟩ := h.2 hl1
    exact ⟨g, (L.val b hr hl1).trans e1, e2⟩
  | avw b k c =>
    refine ⟨h.1, fun hl => ?_⟩
    have hl1 : lkb m1 b ≠ .dead := renB_dead.1 (L.box b hr ▸ hl)
    obtain ⟨g, e1, e2⟩ := h.2 hl1
    exact ⟨g, (L.val b hr hl1).trans e1, e2⟩
  | row b =>
    refine ⟨h.1, fun hl => ?_⟩
    have hl1 : lkb m1 b ≠ .dead := renB_dead.1 (L.box b hr ▸ hl)
    exact (h.2 hl1).trans (L.val b hr hl1).symm
  | rptr b i off =>
    refine ⟨h.1, fun sz hl => ?_⟩
    rw [L.box b hr, rowSz_ren] at hl
    obtain ⟨g, n, c, e1, e2⟩ := h.2 _ hl
    exact ⟨g, n, c, (L.val b hr (by intro e; rw [e] at hl; cases hl)).trans e1, e2⟩
  | rsl b x =>
    refine ⟨h.1, fun sz hl => ?_⟩
    rw [L.box b hr, rowSz_ren] at hl
    obtain ⟨A, n, c, e1, e2⟩ := h.2 _ hl
    exact ⟨A, n, c, (L.val b hr (by intro e; rw [e] at hl; cases hl)).trans e1, e2⟩
  | rpx b x =>
    refine ⟨h.1, fun sz hl => ?_⟩
    rw [L.box b hr, rowSz_ren] at hl
    obtain ⟨A, n, c, e1, e2⟩ := h.2 _ hl
    exact ⟨A, n, c, (L.val b hr (by intro e; rw [e] at hl; cases hl)).trans e1, e2⟩
  | npt => exact h
  | iptr cells =>
    obtain ⟨ad, e, hb, hc⟩ := h
    refine ⟨ad, e, hi _ rfl _ hb, fun j d hj => ?_⟩
    obtain ⟨u, h1, h2⟩ := hc j d hj
    exact ⟨u, h1, h2.mono (hi _ rfl) fun _ _ => rfl⟩
  | fn f caps =>
    obtain ⟨vs, e, hc⟩ := h
    refine ⟨vs, e, All2.map_left (hc.mono fun p hp u hu => ⟨hu.1, fun hl => ?_⟩)⟩
    have hl1 : lkb m1 p.1 ≠ .dead := renB_dead.1 (L.box p.1 (hr p hp) ▸ hl)
    obtain ⟨g, e1, e2⟩ := hu.2 hl1
    exact ⟨g, (L.val p.1 (hr p hp) hl1).trans e1, e2⟩
  | anyb p => exact h
theorem Link.back (L : Link A ρ m1 β1 m2 β2) {c : CV} {v : Value} (hr : RefC A c) (hN : ∀ g, N g → N' g) (h : CRd w N m2 β2 (renC ρ c) v) : CRd w N' m1 β1 c v := by
  cases c with
  | bot => exact h
  | nil => exact h
  | dv d => exact DRd.mono hN (fun _ _ => rfl) h
  | vptr b off =>
    refine ⟨h.1, fun hl => ?_⟩
    obtain ⟨g, e1, e2⟩ := h.2 (L.box b hr ▸ renB_dead.2 hl)
    exact ⟨g, (L.val b hr hl).symm.trans e1, e2⟩
  | avw b k c =>
    refine ⟨h.1, fun hl => ?_⟩
    obtain ⟨g, e1, e2⟩ := h.2 (L.box b hr ▸ renB_dead.2 hl)
    exact ⟨g, (L.val b hr hl).symm.trans e1, e2⟩
  | row b =>
    refine ⟨h.1, fun hl => ?_⟩
    exact (h.2 (L.box b hr ▸ renB_dead.2 hl)).trans (L.val b hr hl)
  | rptr b i off =>
    refine ⟨h.1, fun sz hl => ?_⟩
    obtain ⟨g, n, c, e1, e2⟩ := h.2 sz (by rw [L.box b hr, rowSz_ren]; exact hl)
    exact ⟨g, n, c, (L.val b hr (by intro e; rw [e] at hl; cases hl)).symm.trans e1, e2⟩
  | rsl b x =>
    refine ⟨h.1, fun sz hl => ?_⟩
    obtain ⟨A, n, c, e1, e2⟩ := h.2 sz (by rw [L.box b hr, rowSz_ren]; exact hl)
    exact ⟨A, n, c, (L.val b hr (by intro e; rw [e] at hl; cases hl)).symm.trans e1, e2⟩
  | rpx b x =>
    refine ⟨h.1, fun sz hl => ?_⟩
    obtain ⟨A, n, c, e1, e2⟩ := h.2 sz (by rw [L.box b hr, rowSz_ren]; exact hl)
    exact ⟨A, n, c, (L.val b hr (by intro e; rw [e] at hl; cases hl)).symm.trans e1, e2⟩
  | npt => exact h
  | iptr cells =>
    obtain ⟨ad, e, hb, hc⟩ := h
    refine ⟨ad, e, hN _ hb, fun j d hj => ?_⟩
    obtain ⟨u, h1, h2⟩ := hc j d hj
    exact ⟨u, h1, h2.mono hN fun _ _ => rfl⟩
  | fn f caps =>
    obtain ⟨vs, e, hc⟩ := h
    refine ⟨vs, e, hc.of_map.mono fun p hp u hu => ⟨hu.1, fun hl => ?_⟩⟩
    obtain ⟨g, e1, e2⟩ := hu.2 (L.box p.1 (hr p hp) ▸ renB_dead.2 hl)
    exact ⟨g, (L.val p.1 (hr p hp) hl).symm.trans e1, e2⟩
  | anyb p => exact h
/-- what reads by 'N' reads by 'N'', or is flat -/
def Wider (N N' : Nat → Prop) (flat : Prop) : Prop := (∀ g, N g → N' g) ∨ flat
theorem Link.c' (L : Link A ρ m1 β1 m2 β2) {c : CV} {v : Value} (hr : RefC A c) (hN : Wider N N' (FlatC c)) (h : CRd w N m1 β1 c v) : CRd w N' m2 β2 (renC ρ c) v := by
  rcases hN with hN | hf
  · exact L.c hr (fun d h _ => h.mono hN fun _ _ => rfl) (fun _ _ => hN) h
  · refine L.c hr (fun d h e => ?_) (fun ds e => ?_) h
    · subst e; exact DRd.flat hf h
    · subst e; exact hf.elim
theorem Link.cs (L : Link A ρ m1 β1 m2 β2) {cs : List CV} {vs : List Value} (hr : RefCs A cs) (hN : Wider N N' (∀ c ∈ cs, FlatC c)) (h : All2 (CRd w N m1 β1) cs vs) : All2 (CRd w N' m2 β2) (cs.map (renC ρ)) vs :=
  All2.map_left (h.mono fun c hc _ hv => L.c' (hr c hc) (hN.imp id fun hf => hf c hc) hv)
theorem Link.s (L : Link A ρ m1 β1 m2 β2) {c : SV} {v : Value} (hr : RefS A c) (hN : Wider N N' (FlatS c)) (h : SRd w N m1 β1 c v) : SRd w N' m2 β2 (renS ρ c) v := by
  cases c with
  | bot => trivial
  | one c => exact L.c' hr hN h
  | agg cs =>
    obtain ⟨vs, e, h⟩ := h
    exact ⟨vs, e, L.cs hr hN h⟩
  | tup ts =>
    obtain ⟨vs, e, h⟩ := h
    refine ⟨vs, e, All2.map_left (h.mono fun t ht u hu => ?_)⟩
    have hr' : RefCs A t.2 := hr t ht
    have hN' : Wider N N' (∀ c ∈ t.2, FlatC c) := hN.imp id fun hf => hf t ht
    obtain ⟨b, cs⟩ := t
    cases b
    · obtain ⟨c, e1, e2⟩ := hu
      simp only at e1 e2 hr' hN'
      subst e1
      exact ⟨renC ρ c, rfl, L.c' (hr' c (by simp)) (hN'.imp id fun hf => hf c (by simp)) e2⟩
    · obtain ⟨us, e1, e2⟩ := hu
      exact ⟨us, e1, L.cs hr' hN' e2⟩
theorem Link.b (L : Link A ρ m1 β1 m2 β2) {x : Box} {v : Value} (hr : RefB A x) (hN : Wider N N' (FlatB x)) (h : BRd w N m1 β1 x v) : BRd w N' m2 β2 (renB ρ x) v := by
  cases x with
  | dead => trivial
  | vars t cells =>
    obtain ⟨g, cs, e, hg, ha⟩ := h
    exact ⟨g, cs, e, hg, L.cs hr hN ha⟩
  | rows t sz rs =>
    obtain ⟨xs, ho, hl, ha⟩ := h
    refine ⟨xs, ho, hl, ha.mono fun d hd v hv => ?_⟩
    rcases hN with hN | hf
    · exact hv.mono hN fun _ _ => rfl
    · obtain ⟨r, hr', hd'⟩ := List.mem_flatten.1 hd
      exact DRd.flat (hf r hr' d hd') hv
  | orow t sz rs last =>
    obtain ⟨xs, ys, ho, hl, hll, ha, hla⟩ := h
    refine ⟨xs, ys, ho, hl, by rw [List.length_map]; exact hll, ha.mono fun d hd v hv => ?_, L.cs hr (hN.imp id fun hf => hf.2) hla⟩
    rcases hN with hN | hf
    · exact hv.mono hN fun _ _ => rfl
    · obtain ⟨r, hr', hd'⟩ := List.mem_flatten.1 hd
      exact DRd.flat (hf.1 r hr' d hd') hv
  | iter s pos => exact h
  | mp es =>
    obtain ⟨g, arr, clock, e, hg, ha⟩ := h
    refine ⟨g, arr, clock, e, hg, ha.mono fun e he x hx => ?_⟩
    rcases hN with hN | hf
    · exact ⟨hx.1.mono hN fun _ _ => rfl, hx.2.mono hN fun _ _ => rfl⟩
    · exact ⟨hx.1.flat (hf e he).1, hx.2.flat (hf e he).2⟩
theorem Link.sBack (L : Link A ρ m1 β1 m2 β2) {c : SV} {v : Value} (hr : RefS A c) (hN : ∀ g, N g → N' g) (h : SRd w N m2 β2 (renS ρ c) v) : SRd w N' m1 β1 c v := by
  have hcs : ∀ {cs : List CV} {vs : List Value}, RefCs A cs → All2 (CRd w N m2 β2) (cs.map (renC ρ)) vs → All2 (CRd w N' m1 β1) cs vs := fun hr h => h.of_map.mono fun c hc _ hv => L.back (hr c hc) hN hv
  cases c with
  | bot => trivial
  | one c => exact L.back hr hN h
  | agg cs =>
    obtain ⟨vs, e, h⟩ := h
    exact ⟨vs, e, hcs hr h⟩
  | tup ts =>
    obtain ⟨vs, e, h⟩ := h
    refine ⟨vs, e, h.of_map.mono fun t ht u hu => ?_⟩
    have hr' : RefCs A t.2 := hr t ht
    obtain ⟨b, cs⟩ := t
    cases b
    · obtain ⟨c, e1, e2⟩ := hu
      simp only at e1 e2 hr'
      match cs, e1 with
      | [c'], e1 =>
        simp only [List.map_cons, List.map_nil, List.cons.injEq, and_true] at e1
        subst e1
        exact ⟨c', rfl, L.back (hr' c' (by simp)) hN e2⟩
    · obtain ⟨us, e1, e2⟩ := hu
      exact ⟨us, e1, hcs hr' e2⟩
theorem Link.bBack (L : Link A ρ m1 β1 m2 β2) {x : Box} {v : Value} (hr : RefB A x) (hN : ∀ g, N g → N' g) (h : BRd w N m2 β2 (renB ρ x) v) : BRd w N' m1 β1 x v := by
  cases x with
  | dead => trivial
  | vars t cells =>
    obtain ⟨g, cs, e, hg, ha⟩ := h
    exact ⟨g, cs, e, hg, ha.of_map.mono fun c hc _ hv => L.back (hr c hc) hN hv⟩
  | rows t sz rs =>
    obtain ⟨xs, ho, hl, ha⟩ := h
    exact ⟨xs, ho, hl, ha.mono fun d hd v hv => hv.mono hN fun _ _ => rfl⟩
  | orow t sz rs last =>
    obtain ⟨xs, ys, ho, hl, hll, ha, hla⟩ := h
    exact ⟨xs, ys, ho, hl, by rw [List.length_map] at hll; exact hll, ha.mono fun d hd v hv => hv.mono hN fun _ _ => rfl, hla.of_map.mono fun c hc _ hv => L.back (hr c hc) hN hv⟩
  | iter s pos => exact h
  | mp es =>
    obtain ⟨g, arr, clock, e, hg, ha⟩ := h
    exact ⟨g, arr, clock, e, hg, ha.mono fun e _ x hx => ⟨hx.1.mono hN fun _ _ => rfl, hx.2.mono hN fun _ _ => rfl⟩⟩
end link
end Eng
