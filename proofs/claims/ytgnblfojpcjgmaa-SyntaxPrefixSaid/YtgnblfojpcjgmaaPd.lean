/- law7: SyntaxArguments, SyntaxPrefix. -/
import Derived.Test.YtgnblfojpcjgmaaPc
namespace Go.Proofs.Ytgnblfojpcjgmaa
open Eng
set_option maxRecDepth 10000
attribute [local irreducible] FnOk loopW idxF retX arrF findF

def argTab : List ByteArray := [wJoint, wLimit, wMass, wShape, wSkip, ⟨#[119, 111, 114, 108, 100]⟩]
def argF (x : Int) : ByteArray := argTab.getD (x % 6).toNat ByteArray.empty
theorem argF_at (x : Int) : argTab[(x % 6).toNat]? = some (argF x) := by
  have h : (x % 6).toNat < argTab.length := by show _ < 6; omega
  rw [argF, List.getD_eq_getElem?_getD, List.getElem?_eq_getElem h]; rfl
theorem law7_Arguments (w : ByteArray) (n k : Int) (hw : w.size ≤ 140737488351232) (hn : True) (hk : 0 ≤ k ∧ k < 256) : FnOk Try.prog F.law7_SyntaxArguments [Tx w, I n, By k] [] 0 (Bo true) [] 0 := by
  refine fnOk tab mix G.law7_SyntaxArguments rfl rfl (by kernel_rfl) rfl rfl ?_
  (conv => whnf)
  refine ⟨by decide, ?_⟩
  (conv => whnf)
  rw [u8mod hk.1 (by decide)]
  refine ⟨⟨by omega, by show _ < (6 : Int); omega⟩, ?_⟩
  refine arr_text (tb := argTab) rfl rfl (argF_at k) ?_
  (conv => whnf)
  refine call_i (mk_Round n 40 (by decide) (by decide)) ?_
  (conv => whnf)
  have e : IntKind.i64.wrap (n % 40 - 2) = n % 40 - 2 := by rw [w64] <;> omega
  rw [e]
  refine call_i (law7_awake) ?_
  (conv => whnf)
  refine call_i (syntax_Arguments w n) ?_
  (conv => whnf)
  refine call_i (ref_Arguments w n) ?_
  (conv => whnf)
  refine ask_mt (by simp) ?_
  (conv => whnf)
  refine call_i (syntax_Arguments (argF k) n) ?_
  (conv => whnf)
  refine call_i (ref_Arguments (argF k) n) ?_
  (conv => whnf)
  refine ask_mt (by simp) ?_
  (conv => whnf)
  refine call_i (syntax_Arguments (argF k) (n % 40 - 2)) ?_
  (conv => whnf)
  refine call_i (ref_Arguments (argF k) (n % 40 - 2)) ?_
  (conv => whnf)
  (conv => whnf)
  refine ret0 ?_
  exact ret_b (by simp) rfl

/- a description in front of another one -/
theorem byte_app {s t : ByteArray} {i : Nat} (h : i < s.size) : byteAt (s ++ t) i = byteAt s i := by
  rw [byteAt_get h, byteAt_get (s := s ++ t) (by rw [ByteArray.size_append]; omega), ByteArray.getElem_append_left h]
theorem byte_app2 {s t : ByteArray} {i : Nat} (h : i < t.size) : byteAt (s ++ t) (s.size + i) = byteAt t i := by
  rw [byteAt_get h, byteAt_get (s := s ++ t) (by rw [ByteArray.size_append]; omega), ByteArray.getElem_append_right (by omega)]
  simp
theorem ext_app {s t : ByteArray} {a b : Nat} (h : b ≤ s.size) : (s ++ t).extract a b = s.extract a b := by
  apply ByteArray.ext
  rw [ByteArray.data_extract, ByteArray.data_extract, ByteArray.data_append]
  have : b ≤ s.data.size := h
  apply Array.ext
  · simp; omega
  · intro i h1 h2
    simp at h1 h2
    rw [Array.getElem_extract, Array.getElem_extract, Array.getElem_append_left (by omega)]
theorem fin_app {s t : ByteArray} {st : SS} {k : Nat} (h : k ≤ s.size) : fin (s ++ t) st k = fin s st k := by
  unfold fin; rw [ext_app h]
theorem auto_app (s t : ByteArray) : ∀ k, k ≤ s.size → autoAt (s ++ t) k = autoAt s k
  | 0, _ => rfl
  | k + 1, h => by
    rw [auto_succ, auto_succ, auto_app s t k (by omega)]
    unfold stepS
    rw [byte_app (by omega : k < s.size), fin_app (by omega : k ≤ s.size)]
def okB (c : Int) : Bool := decide (c = 9) || decide (c = 10) || (decide (32 ≤ c) && decide (c ≤ 126))
theorem auto_ok {s : ByteArray} (hs : ∀ i, i < s.size → okB (byteAt s i) = true) : ∀ k, k ≤ s.size → (autoAt s k).bad = false
  | 0, _ => rfl
  | k + 1, h => by
    have ih := auto_ok hs k (by omega)
    have hb := hs k (by omega)
    simp [okB] at hb
    rw [auto_succ]
    unfold stepS
    repeat' split
    all_goals first | exact ih | rfl | skip
    rename_i h1 h2 h3 h4 h5 h6
    simp [wordB] at h6
    omega
/-- what a description adds to what was read before -/
theorem auto_more (u : ByteArray) (k : Nat) : ∀ d, ∃ W, (autoAt u (k + d)).words = (autoAt u k).words ++ W ∧ (∀ w ∈ W, (autoAt u k).line ≤ w.line) ∧ (autoAt u k).line ≤ (autoAt u (k + d)).line ∧ ((autoAt u k).ws = -1 → ∃ W, fin u (autoAt u (k + d)) (k + d) = (autoAt u k).words ++ W ∧ (∀ w ∈ W, (autoAt u k).line ≤ w.line)) := by
  intro d
  have finW : ∀ (st : SS) (i : Nat) (W : List Word) (ws0 : List Word) (L : Int), st.words = ws0 ++ W → (∀ w ∈ W, L ≤ w.line) → L ≤ st.line → ∃ W, fin u st i = ws0 ++ W ∧ ∀ w ∈ W, L ≤ w.line := by
    intro st i W ws0 L h1 h2 h3
    unfold fin
    split
    · refine ⟨W ++ [⟨u.extract st.ws.toNat i, st.line, st.ws - st.bgn + 1⟩], by rw [h1, List.append_assoc], fun w hw => ?_⟩
      rcases List.mem_append.1 hw with hw | hw
      · exact h2 w hw
      · simp only [List.mem_singleton] at hw; subst hw; exact h3
    · exact ⟨W, h1, h2⟩
  have key : ∃ W, (autoAt u (k + d)).words = (autoAt u k).words ++ W ∧ (∀ w ∈ W, (autoAt u k).line ≤ w.line) ∧ (autoAt u k).line ≤ (autoAt u (k + d)).line := by
    induction d with
    | zero => exact ⟨[], by simp, by simp, Int.le_refl _⟩
    | succ d ih =>
      obtain ⟨W, h1, h2, h3⟩ := ih
      rw [← Nat.add_assoc, auto_succ]
      obtain ⟨W', f1, f2⟩ := finW (autoAt u (k + d)) (k + d) W _ _ h1 h2 h3
      generalize autoAt u (k + d) = st at *
      unfold stepS
      repeat' split
      all_goals first
        | exact ⟨W, h1, h2, h3⟩
        | exact ⟨W', f1, f2, by simp only; omega⟩
  obtain ⟨W, h1, h2, h3⟩ := key
  exact ⟨W, h1, h2, h3, fun _ => finW _ _ W _ _ h1 h2 h3⟩
theorem auto_lines (s : ByteArray) : ∀ k, ∀ w ∈ (autoAt s k).words, w.line ≤ (autoAt s k).line
  | 0 => fun w hw => by cases hw
  | k + 1 => by
    have ih := auto_lines s k
    rw [auto_succ]
    have hf : ∀ w ∈ fin s (autoAt s k) k, w.line ≤ (autoAt s k).line := by
      intro w hw
      unfold fin at hw
      split at hw
      · rcases List.mem_append.1 hw with hw | hw
        · exact ih w hw
        · simp only [List.mem_singleton] at hw; subst hw; exact Int.le_refl _
      · exact ih w hw
    generalize autoAt s k = st at *
    unfold stepS
    repeat' split
    all_goals first
      | exact ih
      | exact hf
      | (intro w hw; have := hf w hw; simp only; omega)
/-- a description that is empty or ends with its line -/
def Ends (s : ByteArray) : Prop := s.size = 0 ∨ byteAt s (s.size - 1) = 10
theorem ends_ws {s : ByteArray} (h : Ends s) (hb : (autoAt s s.size).bad = false) : (autoAt s s.size).ws = -1 ∧ ∀ w ∈ (autoAt s s.size).words, w.line < (autoAt s s.size).line := by
  rcases h with h | h
  · rw [h]; exact ⟨rfl, fun w hw => by cases hw⟩
  · by_cases h0 : s.size = 0
    · rw [h0]; exact ⟨rfl, fun w hw => by cases hw⟩
    obtain ⟨k, hk⟩ : ∃ k, s.size = k + 1 := ⟨s.size - 1, by omega⟩
    rw [hk] at h hb ⊢
    rw [Nat.add_sub_cancel] at h
    have hb0 : (autoAt s k).bad = false := by
      cases hb1 : (autoAt s k).bad with
      | false => rfl
      | true => rw [auto_bad hb1 1, hb1] at hb; cases hb
    have hl := auto_lines s (k + 1)
    have hl0 := auto_lines s k
    rw [auto_succ] at hl ⊢
    unfold stepS
    rw [if_neg (by rw [hb0]; decide), if_pos h]
    refine ⟨rfl, fun w hw => ?_⟩
    simp only at hw ⊢
    unfold fin at hw
    split at hw
    · rcases List.mem_append.1 hw with hw | hw
      · have := hl0 w hw; omega
      · simp only [List.mem_singleton] at hw; subst hw; simp only; omega
    · have := hl0 w hw; omega
theorem tail_app {b : List Word} {v : Word} : ∀ (a : List Word) (s : Stmt), ¬ s.line = v.line → (∀ w ∈ a, ¬ w.line = v.line) → gTail s (a ++ v :: b) = gTail s a ++ groupOf (v :: b)
  | [], s, h, _ => by rw [List.nil_append, tail_other h]; rfl
  | w :: a, s, h, ha => by
    rw [List.cons_append]
    by_cases he : s.line = w.line
    · rw [tail_same he, tail_same he]
      exact tail_app a _ h fun w hw => ha w (by simp [hw])
    · rw [tail_other he, tail_other he, group_cons, group_cons, tail_app a _ (ha w (by simp)) fun w hw => ha w (by simp [hw])]
      rfl
theorem group_app {a b : List Word} {L : Int} (ha : ∀ w ∈ a, w.line < L) (hb : ∀ w ∈ b, L ≤ w.line) : groupOf (a ++ b) = groupOf a ++ groupOf b := by
  cases b with
  | nil => rw [List.append_nil]; exact (List.append_nil _).symm
  | cons v b =>
    have hv := hb v (by simp)
    cases a with
    | nil => rfl
    | cons w a =>
      rw [List.cons_append, group_cons, group_cons w a]
      exact tail_app a _ (by have := ha w (by simp); simp only; omega) fun w hw => by have := ha w (by simp [hw]); omega
theorem firstErr_app (b : List Stmt) : ∀ (a : List Stmt) (i : Nat), firstErr i (a ++ b) = match firstErr i a with
    | some e => some e
    | none => firstErr (i + a.length) b
  | [], i => rfl
  | s :: a, i => by
    rw [List.cons_append, firstErr, firstErr]
    split
    · rw [firstErr_app b a (i + 1), List.length_cons, show i + 1 + a.length = i + (a.length + 1) by omega]
    · rfl
theorem firstErr_ne {e : Int × Int} : ∀ (a : List Stmt) (i : Nat), firstErr i a = some e → e.1 ≠ 0
  | [], i, h => by cases h
  | s :: a, i, h => by
    rw [firstErr] at h
    split at h
    · exact firstErr_ne a _ h
    · rename_i hc
      injection h with h
      subst h; exact hc
theorem split_ok {s : ByteArray} (hs : ∀ i, i < s.size → okB (byteAt s i) = true) (hl : s.size ≤ 16384) : splitOf s = (fin s (autoAt s s.size) s.size, 0, 0) := by
  rw [splitOf, if_neg (by omega), if_neg (by rw [auto_ok hs _ (Nat.le_refl _)]; decide)]
theorem parse_prefix {s t : ByteArray} (hs : ∀ i, i < s.size → okB (byteAt s i) = true) (ht : ∀ i, i < t.size → okB (byteAt t i) = true) (he : Ends s) (hl : s.size + t.size ≤ 16384) :
    ((parseOf s).2.1 ≠ 0 → (parseOf (s ++ t)).2 = (parseOf s).2) ∧ ((parseOf s).2.1 = 0 → (parseOf (s ++ t)).2.1 = 0 → ∃ b, (parseOf (s ++ t)).1 = (parseOf s).1 ++ b) := by
  have hsz : (s ++ t).size = s.size + t.size := ByteArray.size_append
  have hu : ∀ i, i < (s ++ t).size → okB (byteAt (s ++ t) i) = true := by
    intro i hi
    by_cases h : i < s.size
    · rw [byte_app h]; exact hs i h
    · have := byte_app2 (s := s) (t := t) (i := i - s.size) (by omega)
      rw [show s.size + (i - s.size) = i by omega] at this
      rw [this]; exact ht _ (by omega)
  obtain ⟨w1, w2⟩ := ends_ws he (auto_ok hs _ (Nat.le_refl _))
  obtain ⟨_, _, _, _, hm⟩ := auto_more (s ++ t) s.size t.size
  rw [auto_app s t _ (Nat.le_refl _)] at hm
  obtain ⟨W, m1, m2⟩ := hm w1
  have e1 := split_ok hs (by omega)
  have e2 := split_ok hu (by omega)
  rw [hsz, m1] at e2
  have ef : fin s (autoAt s s.size) s.size = (autoAt s s.size).words := by rw [fin, if_neg (by omega)]
  rw [ef] at e1
  have hg := group_app w2 m2
  unfold parseOf
  rw [e1, e2]
  simp only [ne_eq, not_true, if_false]
  rw [hg, firstErr_app]
  cases h1 : firstErr 0 (groupOf (autoAt s s.size).words) with
  | some e =>
    have := firstErr_ne _ _ h1
    exact ⟨fun _ => rfl, fun h => absurd h this⟩
  | none =>
    simp only
    refine ⟨fun h => absurd trivial h, fun _ h => ?_⟩
    cases h2 : firstErr (0 + (groupOf (autoAt s s.size).words).length) (groupOf W) with
    | some e =>
      rw [h2] at h
      exact absurd h (firstErr_ne _ _ h2)
    | none => exact ⟨_, rfl⟩
theorem cat_app1 (f : Int → ByteArray) (xs : List Int) (x : Int) : cat f (xs ++ [x]) = cat f xs ++ f x := by
  rw [cat, List.foldl_append]; rfl
theorem typF_ok (x : Int) : (∀ i, i < (typF x).size → okB (byteAt (typF x) i) = true) ∧ 0 < (typF x).size ∧ byteAt (typF x) ((typF x).size - 1) = 10 := by
  have h : ∀ k, k < 12 → (∀ i, i < (typTab.getD k ByteArray.empty).size → okB (byteAt (typTab.getD k ByteArray.empty) i) = true) ∧ 0 < (typTab.getD k ByteArray.empty).size ∧ byteAt (typTab.getD k ByteArray.empty) ((typTab.getD k ByteArray.empty).size - 1) = 10 := by decide
  exact h _ (by omega)
theorem cat_typ (xs : List Int) : ∀ k, k ≤ xs.length → (∀ i, i < (cat typF (xs.take k)).size → okB (byteAt (cat typF (xs.take k)) i) = true) ∧ Ends (cat typF (xs.take k))
  | 0, _ => ⟨fun i hi => absurd hi (by show ¬ i < 0; omega), .inl rfl⟩
  | k + 1, h => by
    obtain ⟨h1, _⟩ := cat_typ xs k (by omega)
    obtain ⟨t1, t2, t3⟩ := typF_ok (xs[k]'(by omega))
    rw [cat_succ (List.getElem?_eq_getElem (by omega : k < xs.length))]
    generalize cat typF (xs.take k) = s at *
    generalize typF (xs[k]'(by omega)) = t at *
    refine ⟨fun i hi => ?_, .inr ?_⟩
    · rw [ByteArray.size_append] at hi
      by_cases hs : i < s.size
      · rw [byte_app hs]; exact h1 i hs
      · have := byte_app2 (s := s) (t := t) (i := i - s.size) (by omega)
        rw [show s.size + (i - s.size) = i by omega] at this
        rw [this]; exact t1 _ (by omega)
    · rw [ByteArray.size_append, show s.size + t.size - 1 = s.size + (t.size - 1) by omega, byte_app2 (by omega), t3]
theorem typical_ok (xs : List Int) : (∀ i, i < (typical xs).size → okB (byteAt (typical xs) i) = true) ∧ Ends (typical xs) := by
  have := cat_typ (xs.take 40) (xs.take 40).length (Nat.le_refl _)
  rwa [List.take_length] at this
theorem law7_Prefix (l m : List Int) (hl : bytesOk l) (hm : bytesOk m) : FnOk Try.prog F.law7_SyntaxPrefix [Lb l, Lb m] [] 0 (Bo true) [] 0 := by
  refine fnOk tab mix G.law7_SyntaxPrefix rfl rfl (by kernel_rfl) rfl rfl ?_
  (conv => whnf)
  refine call_i (law7_typical l hl) ?_
  (conv => whnf)
  refine call_i (syntax_Parse (typical l)) ?_
  (conv => whnf)
  refine call_i (law7_typical l hl) ?_
  (conv => whnf)
  refine call_i (law7_typical m hm) ?_
  (conv => whnf)
  have z1 := typical_size l
  have z2 := typical_size m
  refine ⟨by omega, ?_⟩
  (conv => whnf)
  refine call_i (syntax_Parse (typical l ++ typical m)) ?_
  (conv => whnf)
  obtain ⟨p1, p2⟩ := parse_prefix (typical_ok l).1 (typical_ok m).1 (typical_ok l).2 (by omega)
  obtain ⟨l1, l2⟩ := parse_len (typical l)
  obtain ⟨l3, l4⟩ := parse_len (typical l ++ typical m)
  generalize parseOf (typical l) = A at *
  generalize parseOf (typical l ++ typical m) = B at *
  obtain ⟨a, e, el⟩ := A
  obtain ⟨b, f, fl⟩ := B
  simp only at p1 p2 l1 l2 l3 l4
  refine ask_m (fun h => ?_) (fun h => ?_)
  · have h : e ≠ 0 := by simpa using h
    have h2 := p1 h
    simp only [Prod.mk.injEq] at h2
    obtain ⟨rfl, rfl⟩ := h2
    (conv => whnf)
    refine call_i (law7_awake) ?_
    (conv => whnf)
    refine ⟨cmpSE, ?_⟩
    (conv => whnf)
    refine ret0 ?_
    exact ret_b (by simp) rfl
  have h : e = 0 := by simpa using h
  (conv => whnf)
  refine call_i (law7_awake) ?_
  (conv => whnf)
  refine ask_m (fun h3 => ?_) (fun h3 => ?_)
  · (conv => whnf)
    refine ret0 ?_
    exact ret_b rfl rfl
  have h3 : f = 0 := by simpa using h3
  obtain ⟨c, rfl⟩ := p2 h h3
  (conv => whnf)
  refine ask_mt (by simp; omega) ?_
  (conv => whnf)
  refine ⟨⟨by omega, by simp; omega⟩, ?_⟩
  (conv => whnf)
  have e1 : ((((a ++ c).map encSt).take ((a.map encSt).length : Int).toNat).drop 0) = a.map encSt := by simp
  simp only at e1 ⊢
  rw [e1]
  refine call_i (mk_SameStatements a a true (by omega) (by omega) (fun t ht => by have := l2 t ht; omega) (fun t ht => by have := l2 t ht; omega)) ?_
  (conv => whnf)
  rw [sameSt, decide_eq_true rfl]
  (conv => whnf)
  refine ret0 ?_
  exact ret_b rfl rfl
end Go.Proofs.Ytgnblfojpcjgmaa
