/- law7: SameStatements, typical, awake; SyntaxParses, SyntaxArguments. -/
import Derived.Test.YtgnblfojpcjgmaaPb
import Derived.Test.YtgnblfojpcjgmaaBs
import Derived.Test.YtgnblfojpcjgmaaCo1
namespace Go.Proofs.Ytgnblfojpcjgmaa
open Eng
set_option maxRecDepth 10000
attribute [local irreducible] FnOk loopW idxF retX arrF findF

theorem mk_Same_string (a b : List ByteArray) (ha : a.length ≤ 4611686018427387904) (hb : b.length ≤ 4611686018427387904) : FnOk Try.prog F.mk_Same_string [.one (.dv (.lst 1 (a.map encA))), .one (.dv (.lst 1 (b.map encA)))] [] 0 (Bo (decide (a = b))) [] 0 := by
  refine fnOk tab mix G.mk_Same_string rfl rfl (by kernel_rfl) rfl rfl ?_
  (conv => whnf)
  refine ask_m (fun h => ?_) (fun h => ?_)
  · (conv => whnf)
    refine ret0 ?_
    refine ret_b (Eq.symm (decide_eq_false ?_)) rfl
    rintro rfl
    simp at h
  have hl : a.length = b.length := by simp at h; omega
  (conv => whnf)
  refine loop_intro (fun k : Nat => ⟨[(0, .one (.dv (.lst 1 (a.map encA)))), (1, .one (.dv (.lst 1 (b.map encA)))), (5, I k)], [], 0⟩) (fun k => k ≤ a.length ∧ a.take k = b.take k) (fun k => a.length - k) [] 0 [] ⟨Nat.zero_le _, rfl⟩ ⟨⟨rfl, rfl, rfl, trivial⟩, trivial⟩ ?_
  rintro k ⟨hk, hall⟩
  (conv => whnf)
  refine ask_m (fun h => ?_) (fun h => ?_)
  · have hlt : k < a.length := by simpa using h
    obtain ⟨x, hx⟩ : ∃ j, a[k]? = some j := ⟨_, List.getElem?_eq_getElem hlt⟩
    obtain ⟨y, hy⟩ : ∃ j, b[k]? = some j := ⟨_, List.getElem?_eq_getElem (by omega)⟩
    have hkk : IntKind.i64.wrap ((k : Int) + 1) = ((k + 1 : Nat) : Int) := by rw [w64] <;> omega
    (conv => whnf)
    refine idx_and (by omega) (by simpa using hx) ?_
    (conv => whnf)
    refine idx_and (by omega) (by simpa using hy) ?_
    (conv => whnf)
    refine ask_m (fun h => ?_) (fun h => ?_)
    · (conv => whnf)
      refine ret0 ?_
      refine ret_b (Eq.symm (decide_eq_false (ne_at hx hy ?_))) rfl
      rintro rfl
      simp at h
    · skip
      have e : x = y := by simpa using h
      subst e
      (conv => whnf)
      exact ⟨k + 1, [], ⟨hlt, take_same hall hx hy⟩, by omega, ⟨⟨rfl, rfl, eqI hkk, trivial⟩, trivial⟩⟩
  · have hk : k = a.length := by simp at h; omega
    subst hk
    rw [List.take_length, hl, List.take_length] at hall
    (conv => whnf)
    refine ret0 ?_
    exact ret_b (decide_eq_true hall).symm rfl

def keyS (ln : Bool) (s : Stmt) : ByteArray × List ByteArray × Int := (s.word, s.args, if ln then s.line else 0)
def sameSt (ln : Bool) (a b : List Stmt) : Bool := decide (a.map (keyS ln) = b.map (keyS ln))
theorem mk_SameStatements (a b : List Stmt) (ln : Bool) (ha : a.length ≤ 4611686018427387904) (hb : b.length ≤ 4611686018427387904) (ha2 : ∀ s ∈ a, s.args.length ≤ 4611686018427387904) (hb2 : ∀ s ∈ b, s.args.length ≤ 4611686018427387904) : FnOk Try.prog F.mk_SameStatements [.one (.dv (dSts a)), .one (.dv (dSts b)), Bo ln] [] 0 (Bo (sameSt ln a b)) [] 0 := by
  refine fnOk tab mix G.mk_SameStatements rfl rfl (by kernel_rfl) rfl rfl ?_
  (conv => whnf)
  refine ask_m (fun h => ?_) (fun h => ?_)
  · (conv => whnf)
    refine ret0 ?_
    refine ret_b (Eq.symm (decide_eq_false ?_)) rfl
    intro e
    have := congrArg List.length e
    simp at h this
    omega
  have hl : a.length = b.length := by simp at h; omega
  (conv => whnf)
  refine loop_intro (fun k : Nat => ⟨[(0, .one (.dv (dSts a))), (1, .one (.dv (dSts b))), (2, Bo ln), (7, I k)], [], 0⟩) (fun k => k ≤ a.length ∧ (a.map (keyS ln)).take k = (b.map (keyS ln)).take k) (fun k => a.length - k) [] 0 [] ⟨Nat.zero_le _, rfl⟩ ⟨⟨rfl, rfl, rfl, rfl, trivial⟩, trivial⟩ ?_
  rintro k ⟨hk, hall⟩
  (conv => whnf)
  refine ask_m (fun h => ?_) (fun h => ?_)
  · have hlt : k < a.length := by simpa using h
    obtain ⟨x, hx⟩ : ∃ j, a[k]? = some j := ⟨_, List.getElem?_eq_getElem hlt⟩
    obtain ⟨y, hy⟩ : ∃ j, b[k]? = some j := ⟨_, List.getElem?_eq_getElem (by omega)⟩
    have hkk : IntKind.i64.wrap ((k : Int) + 1) = ((k + 1 : Nat) : Int) := by rw [w64] <;> omega
    have hx2 : (a.map (keyS ln))[k]? = some (keyS ln x) := by rw [List.getElem?_map, hx]; rfl
    have hy2 : (b.map (keyS ln))[k]? = some (keyS ln y) := by rw [List.getElem?_map, hy]; rfl
    have hbad : keyS ln x ≠ keyS ln y → sameSt ln a b = false := fun hn => decide_eq_false (ne_at hx2 hy2 hn)
    (conv => whnf)
    refine idx_and (by omega) (by simpa using hx) ?_
    (conv => whnf)
    refine idx_and (by omega) (by simpa using hy) ?_
    (conv => whnf)
    refine ask_m (fun h => ?_) (fun h => ?_)
    · have h : ¬ x.word = y.word := by simpa using h
      (conv => whnf)
      refine ret0 ?_
      exact ret_b (by rw [hbad fun e => h (congrArg Prod.fst e)]) rfl
    have h1 : x.word = y.word := by simpa using h
    (conv => whnf)
    refine idx_and (by omega) (by simpa using hx) ?_
    (conv => whnf)
    refine idx_and (by omega) (by simpa using hy) ?_
    (conv => whnf)
    refine call_i (mk_Same_string x.args y.args (ha2 x (List.mem_of_getElem? hx)) (hb2 y (List.mem_of_getElem? hy))) ?_
    (conv => whnf)
    by_cases h2 : x.args = y.args
    · rw [decide_eq_true h2]
      (conv => whnf)
      cases ln with
      | true =>
        (conv => whnf)
        refine idx_and (by omega) (by simpa using hx) ?_
        (conv => whnf)
        refine idx_and (by omega) (by simpa using hy) ?_
        (conv => whnf)
        refine ask_m (fun h => ?_) (fun h => ?_)
        · have h : ¬ x.line = y.line := by simpa using h
          (conv => whnf)
          refine ret0 ?_
          exact ret_b (by rw [hbad fun e => h (congrArg (fun q => q.2.2) e)]) rfl
        have h3 : x.line = y.line := by simpa using h
        (conv => whnf)
        have e : keyS true x = keyS true y := by simp [keyS, h1, h2, h3]
        exact ⟨k + 1, [], ⟨hlt, take_same hall hx2 (by rw [e]; exact hy2)⟩, by omega, ⟨⟨rfl, rfl, rfl, eqI hkk, trivial⟩, trivial⟩⟩
      | false =>
        (conv => whnf)
        have e : keyS false x = keyS false y := by simp [keyS, h1, h2]
        exact ⟨k + 1, [], ⟨hlt, take_same hall hx2 (by rw [e]; exact hy2)⟩, by omega, ⟨⟨rfl, rfl, rfl, eqI hkk, trivial⟩, trivial⟩⟩
    · rw [decide_eq_false h2]
      (conv => whnf)
      (conv => whnf)
      refine ret0 ?_
      exact ret_b (by rw [hbad fun e => h2 (congrArg (fun q => q.2.1) e)]) rfl
  · have hk : k = a.length := by simp at h; omega
    subst hk
    rw [List.take_of_length_le (by simp), List.take_of_length_le (by simp; omega)] at hall
    (conv => whnf)
    refine ret0 ?_
    exact ret_b (by rw [sameSt, decide_eq_true hall]) rfl
def typTab : List ByteArray := [⟨#[115, 107, 105, 112, 32, 97, 32, 98, 10]⟩, ⟨#[109, 97, 115, 115, 32, 97, 32, 49, 32, 48, 32, 48, 32, 48, 10]⟩, ⟨#[108, 105, 109, 105, 116, 32, 97, 32, 49, 32, 49, 32, 49, 10]⟩, ⟨#[106, 111, 105, 110, 116, 32, 97, 32, 116, 117, 114, 110, 122, 32, 119, 111, 114, 108, 100, 32, 48, 32, 48, 32, 48, 32, 48, 32, 49, 32, 49, 10]⟩, ⟨#[115, 104, 97, 112, 101, 32, 97, 32, 49, 32, 48, 32, 48, 32, 48, 10]⟩, ⟨#[115, 104, 97, 112, 101, 32, 97, 32, 49, 32, 48, 32, 48, 32, 48, 32, 49, 32, 49, 32, 49, 32, 35, 32, 116, 119, 111, 10]⟩, ⟨#[10]⟩, ⟨#[115, 107, 105, 112, 32, 97, 10]⟩, ⟨#[104, 111, 112, 10]⟩, ⟨#[32, 32, 115, 107, 105, 112, 32, 32, 120, 9, 121, 10]⟩, ⟨#[35, 32, 110, 111, 116, 101, 10]⟩, ⟨#[115, 104, 97, 112, 101, 32, 97, 32, 49, 32, 50, 32, 51, 32, 52, 32, 53, 10]⟩]
def typF (x : Int) : ByteArray := typTab.getD (x % 12).toNat ByteArray.empty
theorem typF_size (x : Int) : (typF x).size ≤ 32 := by
  have h : ∀ k, k < 12 → (typTab.getD k ByteArray.empty).size ≤ 32 := by decide
  exact h _ (by omega)
theorem typF_at (x : Int) : typTab[(x % 12).toNat]? = some (typF x) := by
  have h : (x % 12).toNat < typTab.length := by show _ < 12; omega
  rw [typF, List.getD_eq_getElem?_getD, List.getElem?_eq_getElem h]; rfl
def typical (xs : List Int) : ByteArray := cat typF (xs.take 40)
theorem typical_size (xs : List Int) : (typical xs).size ≤ 1280 := by
  have := cat_size typF_size (xs.take 40)
  have : (xs.take 40).length ≤ 40 := by simp; omega
  unfold typical; omega
theorem law7_typical (xs : List Int) (hx : bytesOk xs) : FnOk Try.prog F.law7_typical [Lb xs] [] 0 (Tx (typical xs)) [] 0 := by
  refine fnOk tab mix G.law7_typical rfl rfl (by kernel_rfl) rfl rfl ?_
  (conv => whnf)
  obtain ⟨hx1, hx2⟩ := hx
  refine loop_intro (fun k : Nat => ⟨[(0, Lb xs), (3, Tx (cat typF (xs.take k))), (4, I k)], [], 0⟩) (fun k => k ≤ xs.length ∧ k ≤ 40) (fun k => 40 - k) [] 0 [] ⟨Nat.zero_le _, Nat.zero_le _⟩ ⟨⟨rfl, rfl, rfl, trivial⟩, trivial⟩ ?_
  rintro k ⟨hk, hk80⟩
  have hsz := cat_size typF_size (xs.take k)
  have hkk : IntKind.i64.wrap ((k : Int) + 1) = ((k + 1 : Nat) : Int) := by rw [w64] <;> omega
  (conv => whnf)
  refine ask_m (fun h => ?_) (fun h => ?_)
  · have hlt : k < xs.length := by simp at h; omega
    obtain ⟨x, hxk⟩ : ∃ x, xs[k]? = some x := ⟨_, List.getElem?_eq_getElem hlt⟩
    obtain ⟨b0, b1⟩ := hx2 x (List.mem_of_getElem? hxk)
    (conv => whnf)
    refine ask_m (fun h => ?_) (fun h => ?_)
    · have h80 : k < 40 := by have := of_decide_eq_true h; omega
      (conv => whnf)
      refine idx_and (by omega) (by simpa using hxk) ?_
      (conv => whnf)
      refine ⟨by decide, ?_⟩
      (conv => whnf)
      rw [u8mod b0 (by decide)]
      refine ⟨⟨by omega, by show _ < (12 : Int); omega⟩, ?_⟩
      refine arr_text (tb := typTab) rfl rfl (typF_at x) ?_
      (conv => whnf)
      refine ⟨?_, ?_⟩
      · have := typF_size x
        have : (xs.take k).length ≤ k := by simp; omega
        omega
      (conv => whnf)
      refine ⟨k + 1, [], ⟨hlt, h80⟩, by omega, ⟨⟨rfl, ?_, eqI hkk, trivial⟩, trivial⟩⟩
      rw [cat_succ hxk]; rfl
    · have h80 : k = 40 := by have := of_decide_eq_false h; omega
      subst h80
      (conv => whnf)
      refine ret0 ?_
      exact ret_dv rfl rfl
  · have hk : k = xs.length := by simp at h; omega
    have e : xs.take k = xs.take 40 := by rw [List.take_of_length_le (by omega), List.take_of_length_le (by omega)]
    rw [e]
    (conv => whnf)
    refine ret0 ?_
    exact ret_dv rfl rfl
theorem cmpSE : cmpB Try.prog 8 Y.SourceError = true ∧ Try.prog.eqGuardType Try.prog.depth Y.SourceError = false := ⟨by kernel_rfl, by kernel_rfl⟩
theorem gTail_args (ws : List Word) : ∀ (s : Stmt) (n : Nat), s.args.length ≤ n → ∀ t ∈ gTail s ws, t.args.length ≤ n + ws.length := by
  induction ws with
  | nil => intro s n h t ht; simp [gTail] at ht; subst ht; simpa using h
  | cons w ws ih =>
    intro s n h t ht
    by_cases he : s.line = w.line
    · rw [tail_same he] at ht
      have := ih _ (n + 1) (by simp; omega) t ht
      simp; omega
    · rw [tail_other he, group_cons] at ht
      rcases List.mem_cons.1 ht with rfl | ht
      · omega
      · have := ih ⟨w.line, w.text, []⟩ n (by simp) t ht
        simp; omega
theorem group_args (ws : List Word) : ∀ t ∈ groupOf ws, t.args.length ≤ ws.length := by
  intro t ht
  cases ws with
  | nil => cases ht
  | cons w ws =>
    rw [group_cons] at ht
    have := gTail_args ws _ 0 (by simp) t ht
    simp; omega
theorem parse_len (s : ByteArray) : (parseOf s).1.length ≤ 16386 ∧ ∀ t ∈ (parseOf s).1, t.args.length ≤ 16385 := by
  have h1 := split_len s
  have h2 := group_len (splitOf s).1
  have h3 := group_args (splitOf s).1
  unfold parseOf
  split
  · exact ⟨by simp, fun t ht => by cases ht⟩
  · split
    · exact ⟨by simp, fun t ht => by cases ht⟩
    · exact ⟨by simp only; omega, fun t ht => by have := h3 t ht; omega⟩
theorem law7_parses (s : ByteArray) : FnOk Try.prog F.law7_parses [Tx s] [] 0 (Bo true) [] 0 := by
  refine fnOk tab mix G.law7_parses rfl rfl (by kernel_rfl) rfl rfl ?_
  (conv => whnf)
  refine call_i (syntax_Parse s) ?_
  (conv => whnf)
  refine call_i (ref_Parse s) ?_
  (conv => whnf)
  obtain ⟨l1, l2⟩ := parse_len s
  refine call_i (mk_SameStatements (parseOf s).1 (parseOf s).1 true (by omega) (by omega) (fun t ht => by have := l2 t ht; omega) (fun t ht => by have := l2 t ht; omega)) ?_
  (conv => whnf)
  rw [sameSt, decide_eq_true rfl]
  (conv => whnf)
  refine ⟨cmpSE, ?_⟩
  (conv => whnf)
  refine ret0 ?_
  exact ret_b (by simp) rfl
theorem law7_awake : FnOk Try.prog F.law7_awake [] [] 0 (Bo true) [] 0 := by
  refine fnOk tab mix G.law7_awake rfl rfl (by kernel_rfl) rfl rfl ?_
  (conv => whnf)
  refine call_i (syntax_Parse ⟨#[115, 107, 105, 112, 32, 97, 32, 98, 32, 35, 32, 110, 101, 97, 114]⟩) ?_
  (conv => whnf)
  have e1 : parseOf ⟨#[115, 107, 105, 112, 32, 97, 32, 98, 32, 35, 32, 110, 101, 97, 114]⟩ = ([⟨1, wSkip, [⟨#[97]⟩, ⟨#[98]⟩]⟩], 0, 0) := by decide
  rw [e1]
  (conv => whnf)
  refine call_i (mk_SameStatements [⟨1, wSkip, [⟨#[97]⟩, ⟨#[98]⟩]⟩] [⟨1, wSkip, [⟨#[97]⟩, ⟨#[98]⟩]⟩] true (by decide) (by decide) (by decide) (by decide)) ?_
  (conv => whnf)
  refine ⟨⟨trivial, trivial⟩, ?_⟩
  (conv => whnf)
  rw [sameSt, decide_eq_true rfl]
  (conv => whnf)
  refine ret0 ?_
  exact ret_b rfl rfl
theorem law7_Parses (s : ByteArray) (xs : List Int) (hs : s.size ≤ 140737488351232) (hx : bytesOk xs) : FnOk Try.prog F.law7_SyntaxParses [Tx s, Lb xs] [] 0 (Bo true) [] 0 := by
  refine fnOk tab mix G.law7_SyntaxParses rfl rfl (by kernel_rfl) rfl rfl ?_
  (conv => whnf)
  refine call_i (law7_awake) ?_
  (conv => whnf)
  refine call_i (law7_parses s) ?_
  (conv => whnf)
  refine call_i (law7_typical xs hx) ?_
  (conv => whnf)
  refine call_i (law7_parses (typical xs)) ?_
  (conv => whnf)
  refine call_i (law7_typical xs hx) ?_
  (conv => whnf)
  have := typical_size xs
  refine ⟨by omega, ?_⟩
  (conv => whnf)
  refine call_i (law7_parses (typical xs ++ s)) ?_
  (conv => whnf)
  (conv => whnf)
  refine ret0 ?_
  exact ret_b rfl rfl
end Go.Proofs.Ytgnblfojpcjgmaa
