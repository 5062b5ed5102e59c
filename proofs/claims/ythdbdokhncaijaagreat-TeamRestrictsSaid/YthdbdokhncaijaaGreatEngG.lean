/- From a law's contract to its statement. -/
import Derived.Test.YthdbdokhncaijaaGreatEngF
import Derived.ProofKit
import Derived.Carry
import Derived.SizedLaws
import Derived.ChangeSame
import Derived.OpenShut
import Derived.WideKeyArgs
namespace Eng
open Go Go.RowKit

section
variable (T : List (Nat × TI))
/-- the data that a type's values may hold -/
def Typed : Nat → Nat → List DV → Prop
  | 0, _, _ => False
  | n + 1, t, ds => match lkt T t with
    | none => False
    | some ti => match ti.kind with
      | .int k => ∃ a, ds = [.int k a] ∧ (Lit.int k a).wf = true
      | .bool => ∃ b, ds = [.bool b]
      | .str => ∃ s, ds = [.str s] ∧ s.size ≤ reachBytes
      | .slice e => match lkt T e with
        | none => False
        | some te => ∃ rs, ds = [.lst te.size rs] ∧ rs.length * te.bytes ≤ reachBytes ∧ rs.length ≤ maxLen ∧ ∀ r ∈ rs, Typed n e r
      | .struct fs => ∃ ps, All2 (fun (f : Nat × Nat) p => Typed n f.2 p) fs ps ∧ ds = ps.flatten
      | .arr k e => ∃ ps : List (List DV), ps.length = k ∧ (∀ p ∈ ps, Typed n e p) ∧ ds = ps.flatten
      | .one => False
/-- fields lie one behind the other -/
def contB : Nat → List (Nat × Nat) → Option Nat
  | off, [] => some off
  | off, (o, t) :: fs => match Nat.beq o off, lkt T t with
    | true, some ti => contB (off + ti.size) fs
    | _, _ => none
def plainB : Nat → Nat → Bool
  | 0, _ => false
  | n + 1, t => match lkt T t with
    | none => false
    | some ti => match ti.kind with
      | .int _ => true
      | .bool => true
      | .str => true
      | .slice e => match lkt T e with
        | some te => Nat.blt 0 te.size && plainB n e
        | none => false
      | .struct fs => (match contB T 0 fs with
        | some k => Nat.beq k ti.size
        | none => false) && fs.all fun f => plainB n f.2
      | .arr k e => match lkt T e with
        | some te => Nat.beq (k * te.size) ti.size && plainB n e
        | none => false
      | .one => false
end

variable {P : Program} {T : List (Nat × TI)}
theorem kind_bool {t : Nat} {ti : TI} (h : ti.Ok P t) (hk : ti.kind = .bool) : P.underlying t = some .bool := by
  have h1 := h.kind
  rw [hk] at h1
  simp only [TK.okB] at h1
  split at h1
  · assumption
  · cases h1
theorem TI.Ok.cells {t : Nat} {ti : TI} (h : ti.Ok P t) : P.cellsOf t = ti.size := by
  obtain ⟨i, z, h1, h2, _⟩ := h.info
  simp [Program.cellsOf, h1, h2]
theorem TI.Ok.bytes_ {t : Nat} {ti : TI} (h : ti.Ok P t) : P.bytesOf t = ti.bytes := by
  obtain ⟨i, z, h1, h2, h3, _⟩ := h.info
  simp [Program.bytesOf, h1, h3]

theorem ex_list {α : Type} {n : Nat} {R : Nat → α → Prop} (h : ∀ i, i < n → ∃ a, R i a) : ∃ l : List α, l.length = n ∧ ∀ i a, l[i]? = some a → R i a := by
  induction n with
  | zero => exact ⟨[], rfl, by simp⟩
  | succ n ih =>
    obtain ⟨l, hl, hR⟩ := ih fun i hi => h i (by omega)
    obtain ⟨a, ha⟩ := h n (by omega)
    refine ⟨l ++ [a], by simp [hl], fun i b hb => ?_⟩
    rcases Nat.lt_trichotomy i n with hi | hi | hi
    · rw [List.getElem?_append_left (by omega)] at hb; exact hR i b hb
    · subst hi; rw [List.getElem?_append_right (by omega)] at hb; simp [hl] at hb; subst hb; exact ha
    · rw [List.getElem?_eq_none (by simp; omega)] at hb; cases hb

theorem flat_at {sz : Nat} (hsz : 0 < sz) : ∀ {rs : List (List DV)}, (∀ r ∈ rs, r.length = sz) → ∀ j d, rs.flatten[j]? = some d → ∃ r, rs[j / sz]? = some r ∧ r[j % sz]? = some d := by
  intro rs
  induction rs with
  | nil => intro _ j d h; simp at h
  | cons r rs ih =>
    intro hr j d h
    have hl := hr r (by simp)
    rw [List.flatten_cons] at h
    by_cases hj : j < sz
    · rw [List.getElem?_append_left (by omega)] at h
      exact ⟨r, by simp [Nat.div_eq_of_lt hj], by rw [Nat.mod_eq_of_lt hj]; exact h⟩
    · rw [List.getElem?_append_right (by omega), hl] at h
      obtain ⟨r', h1, h2⟩ := ih (fun r hr' => hr r (by simp [hr'])) _ d h
      have e1 : j / sz = (j - sz) / sz + 1 := by rw [Nat.div_eq_sub_div hsz (by omega)]
      have e2 : j % sz = (j - sz) % sz := by rw [Nat.mod_eq_sub_mod (by omega)]
      exact ⟨r', by rw [e1]; simpa using h1, by rw [e2]; exact h2⟩

theorem cells_get {w : World} {base : Nat} {a : Addr} {n : Nat} {cs : List Value} (h : w.cells? base a n = some cs) : cs.length = n ∧ ∀ j u, cs[j]? = some u → w.cell? (a.add j) = some u := by
  unfold World.cells? at h
  split at h
  · refine ⟨by have := mapM_some_length h; simpa using this, fun j u hj => ?_⟩
    have hl := mapM_some_length h
    have hjl : j < n := by have := (List.getElem?_eq_some_iff.1 hj).1; simp at hl; omega
    have := mapM_some_get h j j (by simp [hjl])
    rw [this, hj]
  · cases h

/- bulk: how many values and letters -/
mutual
def bulkD : DV → Nat
  | .str s => s.size + 1
  | .lst _ rs => bulkRs rs + 1
  | _ => 1
def bulkDs : List DV → Nat
  | [] => 0
  | d :: ds => bulkD d + bulkDs ds
def bulkRs : List (List DV) → Nat
  | [] => 0
  | r :: rs => bulkDs r + bulkRs rs
end
structure BulkOk {H : Type} (B : DataW H → Nat) : Prop where
  str : ∀ b, b.length + 1 ≤ B (.lit (.string b))
  lit : ∀ l, 1 ≤ B (.lit l)
  nil : 1 ≤ B .nil
  slice : ∀ es sp, (es.map B).sum + 1 ≤ B (.slice es sp)
  agg : ∀ ps, (ps.map B).sum ≤ B (.agg ps)
theorem bulkDs_append : ∀ a b : List DV, bulkDs (a ++ b) = bulkDs a + bulkDs b
  | [], b => by rw [List.nil_append, bulkDs, Nat.zero_add]
  | d :: a, b => by rw [List.cons_append, bulkDs, bulkDs, bulkDs_append a b, Nat.add_assoc]
theorem bulkDs_flatten : ∀ rs : List (List DV), bulkDs rs.flatten = bulkRs rs
  | [] => rfl
  | r :: rs => by rw [List.flatten_cons, bulkDs_append, bulkRs, bulkDs_flatten rs]
theorem bulkRs_le {α : Type} {B : α → Nat} : ∀ {rs : List (List DV)} {es : List α}, rs.length = es.length → (∀ (i : Nat) r e, rs[i]? = some r → es[i]? = some e → bulkDs r ≤ B e) → bulkRs rs ≤ (es.map B).sum
  | [], [], _, _ => Nat.le_refl _
  | r :: rs, e :: es, hl, h => by
    rw [bulkRs, List.map_cons, List.sum_cons]
    exact Nat.add_le_add (h 0 r e rfl rfl) (bulkRs_le (by simpa using hl) fun i r e hr he => h (i + 1) r e (by simpa using hr) (by simpa using he))
theorem typed_len (_ : TabOk P T) : ∀ {n t : Nat} {ti : TI} {ds : List DV}, plainB T n t = true → lkt T t = some ti → ∀ {w : World} {N : Nat → Prop} {cs : List Value}, All2 (DRd w N) ds cs → cs.length = ti.size → ds.length = ti.size := by
  intro n t ti ds _ _ w N cs h hl
  rw [h.length, hl]

theorem DataW.weightsAll_mem {H : Type} {e : TypeId} : ∀ {ds : List (DataW H)} {d : DataW H}, d ∈ ds → ∀ n ∈ d.weights P e, n ∈ DataW.weightsAll P e ds
  | d0 :: ds, d, hd, n, hn => by
    simp only [DataW.weightsAll, List.mem_append]
    rcases List.mem_cons.1 hd with rfl | hd
    · exact .inl hn
    · exact .inr (weightsAll_mem hd n hn)

theorem cont_parts (_ : TabOk P T) {R : Nat → Nat → List DV → List Value → Prop} : ∀ {fs : List (Nat × Nat)} {i0 off k : Nat} {cs : List Value}, contB T off fs = some k → off ≤ cs.length → k = cs.length →
    (∀ (i : Nat) f, fs[i]? = some f → ∀ ti, lkt T f.2 = some ti → ∃ ds, R (i0 + i) f.2 ds ((cs.drop f.1).take ti.size)) → ∃ ps : List (List DV), ∃ us : List (List Value), All2 (fun (f : Nat × Nat) (p : List DV × List Value) => ∃ i, R i f.2 p.1 p.2) fs (ps.zip us) ∧ ps.length = us.length ∧ us.flatten = cs.drop off ∧ ps.length = fs.length ∧ ∀ (i : Nat) f p u, fs[i]? = some f → ps[i]? = some p → us[i]? = some u → R (i0 + i) f.2 p u := by
  intro fs
  induction fs with
  | nil =>
    intro i0 off k cs h h1 h2 _
    simp only [contB, Option.some.injEq] at h
    exact ⟨[], [], trivial, rfl, by rw [List.drop_of_length_le (by omega)]; rfl, rfl, fun i f p u hf => by simp at hf⟩
  | cons f fs ih =>
    obtain ⟨o, t⟩ := f
    intro i0 off k cs h h1 h2 hR
    simp only [contB] at h
    split at h
    · rename_i ti hb hti
      have e := Nat.eq_of_beq_eq_true hb
      subst e
      have hmono : ∀ {fs : List (Nat × Nat)} {a k : Nat}, contB T a fs = some k → a ≤ k := by
        intro fs
        induction fs with
        | nil => intro a k h; simp only [contB, Option.some.injEq] at h; omega
        | cons f fs ih =>
          obtain ⟨o, t⟩ := f
          intro a k h
          simp only [contB] at h
          split at h
          · have := ih h; omega
          · cases h
      obtain ⟨ps, us, g1, g2, g3, g4, g5⟩ := ih (i0 := i0 + 1) h (by have := hmono h; omega) h2 (fun i f hf ti hti => by rw [Nat.add_assoc, Nat.add_comm 1 i]; exact hR (i + 1) f (by simpa using hf) ti hti)
      obtain ⟨ds, hds⟩ := hR 0 (o, t) rfl ti hti
      refine ⟨ds :: ps, (cs.drop o).take ti.size :: us, ⟨⟨_, hds⟩, g1⟩, by simp [g2], ?_, by simp [g4], fun i f p u hf hp hu => ?_⟩
      · rw [List.flatten_cons, g3, ← List.drop_drop, List.take_append_drop]
      · cases i with
        | zero =>
          simp only [List.getElem?_cons_zero, Option.some.injEq] at hf hp hu
          subst hf hp hu
          exact hds
        | succ i =>
          have := g5 i f p u (by simpa using hf) (by simpa using hp) (by simpa using hu)
          rwa [Nat.add_assoc, Nat.add_comm 1 i] at this
    · cases h

theorem All2.flat {w : World} {N : Nat → Prop} : ∀ {ps : List (List DV)} {us : List (List Value)}, ps.length = us.length → (∀ p ∈ ps.zip us, All2 (DRd w N) p.1 p.2) → All2 (DRd w N) ps.flatten us.flatten := by
  intro ps
  induction ps with
  | nil => intro us h _; cases us with
    | nil => trivial
    | cons => simp at h
  | cons p ps ih => intro us h hz; cases us with
    | nil => simp at h
    | cons u us =>
      rw [List.flatten_cons, List.flatten_cons]
      exact (hz (p, u) (by simp)).append (ih (by simpa using h) fun q hq => hz q (by simp [hq]))
theorem All2.mem_right {α β : Type} {R : α → β → Prop} : ∀ {l : List α} {r : List β}, All2 R l r → ∀ b ∈ r, ∃ a ∈ l, R a b := by
  intro l
  induction l with
  | nil => intro r h; cases r with
    | nil => intro b hb; cases hb
    | cons => exact h.elim
  | cons a l ih => intro r h; cases r with
    | nil => exact h.elim
    | cons b r =>
      intro c hc
      rcases List.mem_cons.1 hc with rfl | hc
      · exact ⟨a, by simp, h.1⟩
      · obtain ⟨a', h1, h2⟩ := ih h.2 c hc
        exact ⟨a', by simp [h1], h2⟩
theorem All2.fst {α β γ : Type} {R : α → β → Prop} : ∀ {l : List α} {r : List β} {r' : List γ}, r.length = r'.length → All2 (fun a (p : β × γ) => R a p.1) l (r.zip r') → All2 R l r := by
  intro l
  induction l with
  | nil => intro r r' hl h; cases r with
    | nil => trivial
    | cons => cases r' with
      | nil => simp at hl
      | cons => exact h.elim
  | cons a l ih => intro r r' hl h; cases r with
    | nil => exact h.elim
    | cons b r => cases r' with
      | nil => simp at hl
      | cons c r' => exact ⟨h.1, ih (by simpa using hl) h.2⟩

theorem chunks {α : Type} {sz : Nat} : ∀ {k : Nat} {cs : List α}, cs.length = k * sz → ((List.range k).map fun i => (cs.drop (i * sz)).take sz).flatten = cs := by
  intro k
  induction k with
  | zero => intro cs h; have : cs = [] := List.eq_nil_of_length_eq_zero (by omega); subst this; rfl
  | succ k ih =>
    intro cs h
    rw [List.range_succ_eq_map, List.map_cons, List.flatten_cons, List.map_map]
    have h1 : (cs.drop sz).length = k * sz := by rw [List.length_drop, h, Nat.succ_mul]; omega
    have h2 := ih h1
    have e : ((fun i => (cs.drop (i * sz)).take sz) ∘ Nat.succ) = fun i => ((cs.drop sz).drop (i * sz)).take sz := by
      funext i
      simp only [Function.comp, List.drop_drop, Nat.succ_mul, Nat.add_comm]
    rw [e, h2]
    simp

theorem trod_array' {H : Type} {enc : TypeId × Value → H} {w : World} {sp : Nat → Bool} {base : Nat} {held : Bool} {fuel t n e : Nat} {cs : List Value} {x : DataW H × List MemPlace} (ht : P.underlying t = some (.array n e)) (h : DataW.trod enc P w base sp held fuel t cs = some x) :
    ∃ (xs : List (DataW H × List MemPlace)) (k : Nat), fuel = k + 1 ∧ x = (.agg (xs.map (·.1)), xs.flatMap (·.2)) ∧ cs.length = P.cellsOf t ∧ xs.length = n ∧
      ∀ (i : Nat), i < n → DataW.trod enc P w base sp held k e ((cs.drop (i * P.cellsOf e)).take (P.cellsOf e)) = xs[i]? := by
  cases fuel with
  | zero => simp [DataW.trod] at h
  | succ k =>
    simp only [DataW.trod, ht] at h
    split at h
    · rename_i hl
      rw [Option.map_eq_some_iff] at h
      obtain ⟨xs, h1, rfl⟩ := h
      refine ⟨xs, k, rfl, rfl, hl, by have := mapM_some_length h1; simpa using this, fun i hi => ?_⟩
      exact mapM_some_get h1 i i (by simp [hi])
    · cases h

/-- WHAT IS READ IS DATA OF ITS TYPE. -/
theorem trod_typed {H : Type} {enc : TypeId × Value → H} {w : World} {sp : Nat → Bool} (hT : TabOk P T) : ∀ {n fuel t : Nat} {ti : TI} {cs : List Value} {d : DataW H} {ps : List MemPlace}, plainB T n t = true → lkt T t = some ti →
    DataW.trod enc P w 0 sp true fuel t cs = some (d, ps) → (∀ x ∈ d.weights P t, x ≤ reachBytes) → ∃ ds, Typed T n t ds ∧ All2 (DRd w (· < w.heap.size)) ds cs ∧ ∀ B : DataW H → Nat, BulkOk B → bulkDs ds ≤ B d := by
  intro n
  induction n with
  | zero => intro fuel t ti cs d ps h; simp [plainB] at h
  | succ n ih =>
    intro fuel t ti cs d ps hp hti hd hw
    have hok := hT t ti hti
    simp only [plainB, hti] at hp
    cases fuel with
    | zero => simp [DataW.trod] at hd
    | succ fuel =>
      cases hk : ti.kind with
      | one => rw [hk] at hp; cases hp
      | int k =>
        have hu := kind_int hok hk
        obtain ⟨a, rfl, hx, hwf⟩ := DataW.trod_int hu hd
        simp only [Prod.mk.injEq] at hx
        obtain ⟨rfl, _⟩ := hx
        exact ⟨[.int k a], by simp only [Typed, hti, hk]; exact ⟨a, rfl, hwf⟩, ⟨.int _ _, trivial⟩, fun B hB => hB.lit _⟩
      | bool =>
        have hu := kind_bool hok hk
        obtain ⟨b, rfl, hx⟩ := DataW.trod_bool hu hd
        simp only [Prod.mk.injEq] at hx
        obtain ⟨rfl, _⟩ := hx
        exact ⟨[.bool b], by simp only [Typed, hti, hk]; exact ⟨b, rfl⟩, ⟨.bool _, trivial⟩, fun B hB => hB.lit _⟩
      | str =>
        have hu := kind_str hok hk
        obtain ⟨b, rfl, hx, hm⟩ := DataW.trod_string hu hd
        simp only [Prod.mk.injEq] at hx
        obtain ⟨rfl, _⟩ := hx
        refine ⟨[.str b], ?_, ⟨.str _, trivial⟩, fun B hB => by have := hB.str b.data.toList; simpa [bulkDs, bulkD] using this⟩
        simp only [Typed, hti, hk]
        refine ⟨b, rfl, ?_⟩
        have := hw b.data.toList.length (by simp [DataW.weights])
        rw [Array.length_toList] at this
        exact this
      | slice e =>
        have hu := kind_slice hok hk
        rw [hk] at hp
        simp only at hp
        split at hp
        · rename_i te hte
          rw [Bool.and_eq_true] at hp
          have hpos := blt_iff.1 hp.1
          have hteo := hT e te hte
          have hsz := hteo.cells
          rcases DataW.trod_slice hu hd with ⟨rfl, hx⟩ | ⟨a, len, cap, elems, rest, k, hfu, rfl, hx, _, hlc, hcm, hel, hat, _⟩
          · simp only [Prod.mk.injEq] at hx
            obtain ⟨rfl, _⟩ := hx
            refine ⟨[.lst te.size []], ?_, ⟨DRd.nilS _ _ _, trivial⟩, fun B hB => hB.nil⟩
            simp only [Typed, hti, hk, hte]
            exact ⟨[], rfl, by simp, by simp, by simp⟩
          · simp only [Prod.mk.injEq] at hx
            obtain ⟨rfl, _⟩ := hx
            obtain ⟨L, hL, hR⟩ := ex_list (n := len) (R := fun i (p : List DV × List Value) => Typed T n e p.1 ∧ All2 (DRd w (· < w.heap.size)) p.1 p.2 ∧ p.2.length = te.size ∧ (∀ j u, p.2[j]? = some u → w.cell? (a.add (i * te.size + j)) = some u) ∧ ∀ x, elems[i]? = some x → ∀ B : DataW H → Nat, BulkOk B → bulkDs p.1 ≤ B x.1) (fun i hi => by
              have h1 := hat i hi
              rw [hsz] at h1
              have hei : i < elems.length := by omega
              rw [List.getElem?_eq_getElem hei] at h1
              rw [Option.bind_eq_some_iff] at h1
              obtain ⟨cs', hc, ht'⟩ := h1
              obtain ⟨hcl, hcg⟩ := cells_get hc
              obtain ⟨ds, g1, g2, g3⟩ := ih (d := elems[i].1) (ps := elems[i].2) hp.2 hte ht' (fun x hx => hw x (by
                simp only [DataW.weights, hu]
                exact List.mem_cons_of_mem _ (List.mem_append_left _ (DataW.weightsAll_mem (List.mem_map.2 ⟨elems[i], List.getElem_mem hei, rfl⟩) x hx))))
              exact ⟨(ds, cs'), g1, g2, hcl, fun j u hj => by rw [← addr_add]; exact hcg j u hj, fun x hx => by rw [List.getElem?_eq_getElem hei] at hx; injection hx with hx; subst hx; exact g3⟩)
            have hrl : ∀ r ∈ L.map (·.1), r.length = te.size := fun r hr => by
              obtain ⟨p, hp', rfl⟩ := List.mem_map.1 hr
              obtain ⟨i, hi⟩ := List.getElem?_of_mem hp'
              obtain ⟨_, h2, h3, _⟩ := hR i p hi
              rw [h2.length, h3]
            have key : ∀ j d, (L.map (·.1)).flatten[j]? = some d → ∃ p : List DV × List Value, ∃ u, L[j / te.size]? = some p ∧ p.2[j % te.size]? = some u ∧ DRd w (· < w.heap.size) d u ∧ w.cell? (a.add j) = some u := fun j d hj => by
              obtain ⟨r, h1, h2⟩ := flat_at hpos hrl j d hj
              rw [List.getElem?_map, Option.map_eq_some_iff] at h1
              obtain ⟨p, h1, rfl⟩ := h1
              obtain ⟨_, h4, h5, h6, _⟩ := hR _ p h1
              obtain ⟨u, h7, h8⟩ := h4.get h2
              refine ⟨p, u, h1, h7, h8, ?_⟩
              have := h6 _ u h7
              rwa [Nat.mul_comm, Nat.div_add_mod] at this
            have hdr : DRd w (· < w.heap.size) (.lst te.size (L.map (·.1))) (.slice (some a) (L.map (·.1)).length cap) := by
              refine .lst te.size (L.map (·.1)) (some a) cap (fun j => (w.cell? (a.add j)).getD undef) hrl (by simp [hL]; exact hlc) (fun hne => ⟨a, rfl, ?_⟩) (fun ad had j d hj => ?_) (fun j d hj => ?_)
              · have hfl : (L.map (·.1)).flatten ≠ [] := by
                  intro h0
                  have := flat_len hrl
                  rw [h0, List.length_nil] at this
                  rcases Nat.mul_eq_zero.1 this.symm with h | h
                  · exact hne (List.eq_nil_of_length_eq_zero h)
                  · omega
                obtain ⟨d0, hd0⟩ : ∃ d, (L.map (·.1)).flatten[0]? = some d := by
                  cases hf : (L.map (·.1)).flatten with
                  | nil => exact absurd hf hfl
                  | cons x xs => exact ⟨x, rfl⟩
                obtain ⟨_, u, _, _, _, hc⟩ := key 0 d0 hd0
                have := World.block_lt_of_cell? w _ hc
                rwa [addr_block] at this
              · injection had with had; subst had
                obtain ⟨_, u, _, _, _, hc⟩ := key j d hj
                rw [hc]; rfl
              · obtain ⟨_, u, _, _, hdu, hc⟩ := key j d hj
                rw [hc]; exact hdu
            refine ⟨[.lst te.size (L.map (·.1))], ?_, ⟨?_, trivial⟩, fun B hB => ?_⟩
            · simp only [Typed, hti, hk, hte]
              refine ⟨L.map (·.1), rfl, ?_, by simp [hL]; omega, fun r hr => ?_⟩
              · have := hw ((elems.length + rest.length) * te.bytes) (by
                  simp only [DataW.weights, hu, hteo.bytes_]
                  simp)
                refine Nat.le_trans (Nat.mul_le_mul_right _ ?_) this
                simp [hL]; omega
              · obtain ⟨p, hp', rfl⟩ := List.mem_map.1 hr
                obtain ⟨i, hi⟩ := List.getElem?_of_mem hp'
                exact (hR i p hi).1
            · have : (L.map (·.1)).length = len := by simp [hL]
              rw [this] at hdr
              exact hdr
            · have h1 := hB.slice (elems.map (·.1)) (rest.map (·.1))
              have h2 : bulkRs (L.map (·.1)) ≤ (elems.map fun x => B x.1).sum := bulkRs_le (by simp [hL, hel]) fun i r x hr hx => by
                rw [List.getElem?_map, Option.map_eq_some_iff] at hr
                obtain ⟨p, hp', rfl⟩ := hr
                exact (hR i p hp').2.2.2.2 x hx B hB
              rw [List.map_map] at h1
              have h3 : (elems.map (B ∘ fun x => x.1)).sum = (elems.map fun x => B x.1).sum := rfl
              rw [h3] at h1
              simp only [bulkDs, bulkD]
              omega
        · cases hp
      | struct fs =>
        obtain ⟨F, hu, hF, _⟩ := kind_struct hok hk
        rw [hk] at hp
        simp only [Bool.and_eq_true] at hp
        obtain ⟨hp1, hp2⟩ := hp
        split at hp1
        · rename_i kk hc
          have e := Nat.eq_of_beq_eq_true hp1
          subst e
          obtain ⟨xs, k, hfu, hx, hcl, hxl, hat⟩ := DataW.trod_struct hu hd
          simp only [Prod.mk.injEq] at hx
          obtain ⟨rfl, _⟩ := hx
          rw [hok.cells] at hcl
          obtain ⟨pp, uu, g1, g2, g3, g4, g5⟩ := cont_parts (i0 := 0) (R := fun i t ds us => Typed T n t ds ∧ All2 (DRd w (· < w.heap.size)) ds us ∧ ∀ x, xs[i]? = some x → ∀ B : DataW H → Nat, BulkOk B → bulkDs ds ≤ B x.1) hT hc (Nat.zero_le _) hcl.symm (fun i f hf tf htf => by
            have hpf := List.all_eq_true.1 hp2 f (List.mem_of_getElem? hf)
            rw [← hF, List.getElem?_map, Option.map_eq_some_iff] at hf
            obtain ⟨fd, hi, rfl⟩ := hf
            rw [Nat.zero_add]
            have h1 := hat i fd (by simpa using hi)
            rw [(hT _ tf htf).cells] at h1
            have hil : i < xs.length := by have := (List.getElem?_eq_some_iff.1 hi).1; simp at this; omega
            rw [List.getElem?_eq_getElem hil] at h1
            obtain ⟨ds, q1, q2, q3⟩ := ih (d := xs[i].1) (ps := xs[i].2) hpf htf h1 (fun x hx => hw x (by
              simp only [DataW.weights, hu]
              exact DataW.weights_mem_each (j := i) (t := fd.type) (d := xs[i].1) (by rw [List.getElem?_map, hi]; rfl) (by rw [List.getElem?_map, List.getElem?_eq_getElem hil]; rfl) x hx))
            exact ⟨ds, q1, q2, fun x hx => by rw [List.getElem?_eq_getElem hil] at hx; injection hx with hx; subst hx; exact q3⟩)
          refine ⟨pp.flatten, ?_, ?_, fun B hB => ?_⟩
          · simp only [Typed, hti, hk]
            exact ⟨pp, All2.fst g2 (g1.mono fun f _ p hp => hp.choose_spec.1), rfl⟩
          · rw [List.drop_zero] at g3
            rw [← g3]
            exact All2.flat g2 fun p hp => by obtain ⟨f, _, _, h⟩ := g1.mem_right p hp; exact h.2.1
          · have h1 := hB.agg (xs.map (·.1))
            rw [List.map_map] at h1
            rw [bulkDs_flatten]
            refine Nat.le_trans (bulkRs_le (es := xs) (B := B ∘ fun x => x.1) ?_ fun i r x hr hx => ?_) h1
            · rw [g4, ← hF, List.length_map, hxl, Array.length_toList]
            · have hi : i < pp.length := (List.getElem?_eq_some_iff.1 hr).1
              have := g5 i _ r _ (List.getElem?_eq_getElem (by omega)) hr (List.getElem?_eq_getElem (by omega))
              rw [Nat.zero_add] at this
              exact this.2.2 x hx B hB
        · cases hp1
      | arr k e =>
        have hu := kind_arr hok hk
        rw [hk] at hp
        simp only at hp
        split at hp
        · rename_i te hte
          rw [Bool.and_eq_true] at hp
          have e1 := Nat.eq_of_beq_eq_true hp.1
          obtain ⟨xs, kk, hfu, hx, hcl, hxl, hat⟩ := trod_array' hu hd
          simp only [Prod.mk.injEq] at hx
          obtain ⟨rfl, _⟩ := hx
          rw [hok.cells, ← e1] at hcl
          obtain ⟨L, hL, hR⟩ := ex_list (n := k) (R := fun i (p : List DV) => Typed T n e p ∧ All2 (DRd w (· < w.heap.size)) p ((cs.drop (i * te.size)).take te.size) ∧ ∀ x, xs[i]? = some x → ∀ B : DataW H → Nat, BulkOk B → bulkDs p ≤ B x.1) (fun i hi => by
            have h1 := hat i hi
            rw [(hT e te hte).cells] at h1
            have hil : i < xs.length := by omega
            rw [List.getElem?_eq_getElem hil] at h1
            obtain ⟨ds, q1, q2, q3⟩ := ih (d := xs[i].1) (ps := xs[i].2) hp.2 hte h1 (fun x hx => hw x (by
              simp only [DataW.weights, hu]
              exact DataW.weightsAll_mem (List.mem_map.2 ⟨xs[i], List.getElem_mem hil, rfl⟩) x hx))
            exact ⟨ds, q1, q2, fun x hx => by rw [List.getElem?_eq_getElem hil] at hx; injection hx with hx; subst hx; exact q3⟩)
          refine ⟨L.flatten, ?_, ?_, fun B hB => ?_⟩
          · simp only [Typed, hti, hk]
            exact ⟨L, hL, fun p hp => by obtain ⟨i, hi⟩ := List.getElem?_of_mem hp; exact (hR i p hi).1, rfl⟩
          · have := chunks hcl
            rw [← this]
            refine All2.flat (by simp [hL]) fun p hp => ?_
            obtain ⟨i, hi⟩ := List.getElem?_of_mem hp
            rw [List.getElem?_zip_eq_some] at hi
            obtain ⟨h1, h2⟩ := hi
            rw [List.getElem?_map, Option.map_eq_some_iff] at h2
            obtain ⟨i', h2, h3⟩ := h2
            have hii : i' = i := by
              have := (List.getElem?_eq_some_iff.1 h2).2; simpa using this.symm
            subst hii
            rw [← h3]
            exact (hR _ _ h1).2.1
          · have h1 := hB.agg (xs.map (·.1))
            rw [List.map_map] at h1
            rw [bulkDs_flatten]
            refine Nat.le_trans (bulkRs_le (es := xs) (B := B ∘ fun x => x.1) (by omega) fun i r x hr hx => ?_) h1
            exact (hR i r hr).2.2 x hx B hB
        · cases hp

/-- an argument as a slot holds it -/
def mkS (T : List (Nat × TI)) (t : Nat) (ds : List DV) : SV :=
  match lkt T t with
  | some ti => match ti.kind.agg with
    | true => .agg (ds.map .dv)
    | false => match ds with
      | [d] => .one (.dv d)
      | _ => .bot
  | none => .bot
def mkSs (T : List (Nat × TI)) : List Nat → List (List DV) → List SV
  | t :: ts, ds :: dss => mkS T t ds :: mkSs T ts dss
  | _, _ => []

theorem arg_rd {H : Type} {enc : TypeId × Value → H} {w : World} {r : Reach} {b0 n t : Nat} (hT : TabOk P T) {v : Value} {d : DataW H} {ps : List MemPlace} (hp : plainB T n t = true) (hv : Value.okWide P w r b0 t v)
    (h : DataW.Trod enc P w 0 (fun _ => true) true t v d ps) (hw : ∀ x ∈ d.weights P t, x ≤ reachBytes) : ∃ ds, Typed T n t ds ∧ (∀ m β, SRd w (· < w.heap.size) m β (mkS T t ds) v) ∧ ∀ B : DataW H → Nat, BulkOk B → bulkDs ds ≤ B d := by
  cases n with
  | zero => simp [plainB] at hp
  | succ n =>
    cases hti : lkt T t with
    | none => simp [plainB, hti] at hp
    | some ti =>
      obtain ⟨fuel, hf⟩ := h
      obtain ⟨ds, h1, h2, h3⟩ := trod_typed hT hp hti hf hw
      refine ⟨ds, h1, fun m β => ?_, h3⟩
      have hok := hT t ti hti
      have one : ti.kind.agg = false → v.cells = #[v] → SRd w (· < w.heap.size) m β (mkS T t ds) v := fun ha hc => by
        simp only [mkS, hti, ha]
        rw [hc] at h2
        match ds, h2 with
        | [d], h2 => exact h2.1
      have agg : ti.kind.agg = true → ∀ cs, v = .agg cs → SRd w (· < w.heap.size) m β (mkS T t ds) v := fun ha cs hc => by
        simp only [mkS, hti, ha]
        subst hc
        exact ⟨cs, rfl, All2.map_left h2⟩
      cases hk : ti.kind with
      | one => simp [plainB, hti, hk] at hp
      | int k => obtain ⟨x, rfl⟩ := WideShapes.okWide_int (kind_int hok hk) hv; exact one (by rw [hk]; rfl) rfl
      | bool => obtain ⟨x, rfl⟩ := WideShapes.okWide_bool (kind_bool hok hk) hv; exact one (by rw [hk]; rfl) rfl
      | str =>
        have hu := kind_str hok hk
        refine one (by rw [hk]; rfl) ?_
        simp only [Value.okWide, hu, Cell.okWide] at hv
        cases v <;> first | rfl | (simp only [Cell.ok, hu] at hv)
      | slice e =>
        have hu := kind_slice hok hk
        refine one (by rw [hk]; rfl) ?_
        simp only [Value.okWide, hu, Cell.okWide] at hv
        cases v <;> first | rfl | (simp only [Cell.ok, hu] at hv)
      | struct fs =>
        obtain ⟨F, hu, _⟩ := kind_struct hok hk
        simp only [Value.okWide, hu] at hv
        obtain ⟨cs, e, _⟩ := hv
        exact agg (by rw [hk]; rfl) cs e
      | arr k e =>
        have hu := kind_arr hok hk
        simp only [Value.okWide, hu] at hv
        obtain ⟨cs, e, _⟩ := hv
        exact agg (by rw [hk]; rfl) cs e

theorem args_rd {H : Type} {enc : TypeId × Value → H} {w : World} {r : Reach} {b0 n : Nat} (hT : TabOk P T) : ∀ {ts : List TypeId} {vs : List Value} {ds : List (DataW H)} {ps : List MemPlace}, (∀ t ∈ ts, plainB T n t = true) →
    (∀ (j : Nat) t v, ts[j]? = some t → vs[j]? = some v → Value.okWide P w r b0 t v) → DataW.TrodAll enc P w 0 (fun _ => true) true ts vs ds ps → (∀ x ∈ DataW.weightsEach P ts ds, x ≤ reachBytes) →
    ds.length = ts.length ∧ ∃ dss, All2 (fun t ds => Typed T n t ds) ts dss ∧ (∀ m β, All2 (SRd w (· < w.heap.size) m β) (mkSs T ts dss) vs) ∧ ∀ B : DataW H → Nat, BulkOk B → bulkRs dss ≤ (ds.map B).sum
  | [], [], [], _, _, _, _, _ => ⟨rfl, [], trivial, fun _ _ => trivial, fun _ _ => Nat.le_refl _⟩
  | t :: ts, v :: vs, d :: ds, ps, hp, hv, h, hw => by
    obtain ⟨p, q, h1, h2, _⟩ := h
    simp only [DataW.weightsEach, List.mem_append] at hw
    obtain ⟨dd, g1, g2, g5⟩ := arg_rd hT (hp t (by simp)) (hv 0 t v rfl rfl) h1 (fun x hx => hw x (.inl hx))
    obtain ⟨hl, dss, g3, g4, g6⟩ := args_rd hT (fun t ht => hp t (by simp [ht])) (fun j t v ht hv' => hv (j + 1) t v (by simpa using ht) (by simpa using hv')) h2 (fun x hx => hw x (.inr hx))
    exact ⟨by simp [hl], dd :: dss, ⟨g1, g3⟩, fun m β => ⟨g2 m β, g4 m β⟩, fun B hB => by rw [bulkRs, List.map_cons, List.sum_cons]; exact Nat.add_le_add (g5 B hB) (g6 B hB)⟩

theorem args_stay {H : Type} {enc : TypeId × Value → H} {W W' : World} {sp : Nat → Bool} (hl : laidOutB P = true) : ∀ {ts : List TypeId} {vs : List Value} {ds : List (DataW H)} {ps : List MemPlace}, (∀ t ∈ ts, P.readableRec t = true ∧ t < P.types.size) →
    DataW.TrodAll enc P W 0 (fun _ => true) true ts vs ds ps → (∀ p ∈ ps, W.sameAt W' p) → (∀ p ∈ ps, sp p.block = true) → DataW.TrodAll enc P W' 0 sp true ts vs ds ps
  | [], [], [], _, _, h, _, _ => h
  | t :: ts, v :: vs, d :: ds, ps, ht, ⟨p, q, h1, h2, e⟩, hs, hp => by
    subst e
    exact ⟨p, q, WideElems.Trod_stays hl (ht t (by simp)).1 (ht t (by simp)).2 h1 (fun x hx => hs x (by simp [hx])) (fun x hx => hp x (by simp [hx])),
      args_stay hl (fun t h => ht t (by simp [h])) h2 (fun x hx => hs x (by simp [hx])) (fun x hx => hp x (by simp [hx])), rfl⟩

/-- A LAW THAT HOLDS OF ALL DATA (of a bulk) ENDS AS ITS STATEMENT SAYS. -/
theorem law_contractU {H : Type} {enc : TypeId × Value → H} (hT : TabOk P T) (hlaid : laidOutB P = true) {f tb n : Nat} {fn : Func} {s : ChangeSpec} {ts : List TypeId} (hvars : s.vars = []) (hpar : fn.params.toList = ts)
    (hplain : (ts.all fun t => plainB T n t && P.readableRec t && decide (t < P.types.size)) = true) (hres : fn.resultTypes = #[tb]) (htb : P.underlying tb = some .bool)
    (hfn : ∀ ds : List (DataW H), ds.length = ts.length → s.fn H ds = { results := [.lit (.bool true)], args := ds })
    {W : World} {base : Nat} {args : Array Value} {ds gs : List (DataW H)} {before : List MemPlace}
    (hlaw : ∀ dss : List (List DV), All2 (fun t ds => Typed T n t ds) ts dss → (∀ B : DataW H → Nat, BulkOk B → bulkRs dss ≤ (ds.map B).sum) → FnOk P f (mkSs T ts dss) [] 0 (.one (.dv (.bool true))) [] 0)
    (hval : ∀ (j : Nat) t v, fn.params[j]? = some t → args[j]? = some v → Value.okWide P W .any base t v)
    (hW : DataW.Whole enc P fn.params.toList s.vars false W args.toList ds gs before)
    (hsz : (DataW.weightsEach P (fn.params.toList ++ s.plain.varTypes P) (ds ++ gs)).all (· ≤ reachBytes) = true)
    (hgl : ∀ g ss, lkv GLV g = some ss → g < W.heap.size ∧ ∃ t fr, W.heap[g]? = some (.cells ss.toArray t fr)) :
    Calls P f args W fun e W' => ∃ v, e = .returned v ∧ s.post enc P fn false true false false W args v W' := by
  have hW' := hW
  obtain ⟨p, q, hA, hV, hpq, hz, hn⟩ := hW
  rw [hvars] at hV
  have hgs : gs = [] ∧ q = [] := by
    cases gs with
    | nil => exact ⟨rfl, hV⟩
    | cons => exact hV.elim
  obtain ⟨rfl, rfl⟩ := hgs
  have hpl : ∀ t ∈ ts, plainB T n t = true ∧ P.readableRec t = true ∧ t < P.types.size := fun t ht => by
    have := List.all_eq_true.1 hplain t ht
    simpa [Bool.and_eq_true, and_assoc] using this
  rw [List.append_nil] at hpq hsz
  obtain rfl := hpq.symm
  rw [hpar] at hA hsz
  have hvt : s.plain.varTypes P = [] := by
    simp [DataSpec.varTypes, ChangeSpec.plain, hvars]
  rw [hvt, List.append_nil] at hsz
  obtain ⟨hdl, dss, h1, h2, h3⟩ := args_rd hT (fun t ht => (hpl t ht).1) (fun j t v ht hv => hval j t v (by rw [← hpar] at ht; simpa using ht) (by simpa using hv)) hA (fun x hx => by simpa using List.all_eq_true.1 hsz x hx)
  have hok := (hlaw dss h1 h3).2 W (fun _ => True) args.toList (fun _ => undef) ((h2 [] _).mono fun sv _ v hv => by
    have : (Imm (fun _ => True) [] (fun _ => undef) W) = (· < W.heap.size) := by
      funext g; simp [Imm, lkb]
    rw [this]; exact hv) ⟨fun b => ⟨trivial, fun h => absurd rfl h⟩, fun b => trivial, fun b b' g h => absurd rfl h, fun b g h => absurd rfl h, ⟨rfl, rfl, rfl, Nat.le_refl _, fun _ _ _ => rfl⟩, ⟨fun _ _ => trivial, fun g ss hg => ⟨(hgl g ss hg).1, fun ⟨b, hb, _⟩ => hb rfl, trivial, (hgl g ss hg).2⟩⟩, fun _ _ _ _ => trivial⟩
  rw [show args.toList.toArray = args by simp] at hok
  refine hok.mono fun e W' ⟨v, β', he, hv, _, hm, _⟩ => ?_
  have hb : Below W.heap.size W W' := ⟨hm.ext.os, hm.ext.tape, hm.ext.output, hm.ext.size, fun k hk => hm.ext.block k hk (by rintro ⟨b, hb, _⟩; exact hb rfl)⟩
  have hve : v = .bool true := DRd.bool_inv hv
  subst hve
  refine ⟨_, he, ?_⟩
  have hlt : ∀ x ∈ p, x.block < W.heap.size := fun x hx => hW'.lt x hx
  have hold : ∀ x ∈ p, (fun b => decide (b < W.heap.size)) x.block = true := fun x hx => by simpa using hlt x hx
  have hsame : ∀ x ∈ p, W.sameAt W' x := fun x hx => hb.same (hlt x hx)
  have hr : ∀ (b : Nat) (sp : Nat → Bool) (hd : Bool), DataW.TrodAll enc P W' b sp hd fn.resultTypes.toList ((Value.bool true).resultList fn.resultTypes.size) (s.fn H (ds ++ [])).results [] := fun b sp hd => by
    rw [List.append_nil, hfn ds hdl, hres]
    exact ⟨[], [], ⟨1, by simp [DataW.trod, Value.cells, htb]⟩, rfl, rfl⟩
  have ha : ∀ sp : Nat → Bool, (∀ x ∈ p, sp x.block = true) → DataW.TrodAll enc P W' 0 sp true fn.params.toList args.toList (s.fn H (ds ++ [])).args p := fun sp hsp => by
    rw [List.append_nil, hfn ds hdl, hpar]
    exact args_stay hlaid (fun t ht => (hpl t ht).2) hA hsame hsp
  have hvv : ∀ sp : Nat → Bool, DataW.TrodVars enc P W' sp s.vars (s.fn H (ds ++ [])).vars [] := fun sp => by
    rw [List.append_nil, hfn ds hdl, hvars]; rfl
  refine ⟨ds, [], p, [], p, [], hW', hr _ _ _, ha _ hold, hvv _, World.keptBut_mono (fun x hx => ⟨hx, .inr (.inl hx)⟩) (hb.frame (· ∈ p)), fun h => by cases h⟩
/-- A LAW THAT HOLDS OF ALL DATA ENDS AS ITS STATEMENT SAYS. -/
theorem law_contract {H : Type} {enc : TypeId × Value → H} (hT : TabOk P T) (hlaid : laidOutB P = true) {f tb n : Nat} {fn : Func} {s : ChangeSpec} {ts : List TypeId} (hvars : s.vars = []) (hpar : fn.params.toList = ts)
    (hplain : (ts.all fun t => plainB T n t && P.readableRec t && decide (t < P.types.size)) = true) (hres : fn.resultTypes = #[tb]) (htb : P.underlying tb = some .bool)
    (hfn : ∀ ds : List (DataW H), ds.length = ts.length → s.fn H ds = { results := [.lit (.bool true)], args := ds })
    (hlaw : ∀ dss : List (List DV), All2 (fun t ds => Typed T n t ds) ts dss → FnOk P f (mkSs T ts dss) [] 0 (.one (.dv (.bool true))) [] 0)
    {W : World} {base : Nat} {args : Array Value} {ds gs : List (DataW H)} {before : List MemPlace}
    (hval : ∀ (j : Nat) t v, fn.params[j]? = some t → args[j]? = some v → Value.okWide P W .any base t v)
    (hW : DataW.Whole enc P fn.params.toList s.vars false W args.toList ds gs before)
    (hsz : (DataW.weightsEach P (fn.params.toList ++ s.plain.varTypes P) (ds ++ gs)).all (· ≤ reachBytes) = true)
    (hgl : ∀ g ss, lkv GLV g = some ss → g < W.heap.size ∧ ∃ t fr, W.heap[g]? = some (.cells ss.toArray t fr)) :
    Calls P f args W fun e W' => ∃ v, e = .returned v ∧ s.post enc P fn false true false false W args v W' :=
  law_contractU hT hlaid hvars hpar hplain hres htb hfn (fun dss h _ => hlaw dss h) hval hW hsz hgl
end Eng
