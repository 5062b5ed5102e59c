/- Common ground: sources; data of the parameters' types. -/
import Derived.Test.YtgnblfojpcjgmaaBa
namespace Go.Proofs.Ytgnblfojpcjgmaa
open Eng
set_option maxRecDepth 10000
attribute [local irreducible] FnOk loopW idxF retX arrF

theorem mk_Round (x m : Int) (hm : 0 < m) (hm2 : m ≤ 4611686018427387904) : FnOk Try.prog F.mk_Round [I x, I m] [] 0 (I (x % m)) [] 0 := by
  refine fnOk tab mix G.mk_Round rfl rfl (by kernel_rfl) rfl rfl ?_
  obtain ⟨h1, h2, h3, h4⟩ := tmod_pos (x := x) hm
  (conv => whnf)
  refine ⟨by omega, ?_⟩
  repeat' ((conv => whnf); first | refine ask_m (fun h => ?_) (fun h => ?_) | refine ret0 ?_)
  all_goals (conv => whnf)
  · have h : x.tmod m < 0 := by simpa using h
    exact ret_i (by rw [w64 (by omega) (by omega)]; exact h1 h) rfl
  · have h : ¬ x.tmod m < 0 := by simpa using h
    exact ret_i (h2 (by omega)) rfl

/- sources -/
abbrev Src (xs : List Int) (k : Nat) : Box := .vars Y.mk_Source [.dv (.lst 1 (xs.map encI)), .dv (.int .i64 k)]
def nxt (xs : List Int) (k : Nat) (m : Int) : Int := match xs[k]? with
  | some x => x % m
  | none => 0
def adv (xs : List Int) (k : Nat) : Nat := if k < xs.length then k + 1 else k
theorem nxt_bd {l : List Int} {j : Nat} {m : Int} (hm : 0 < m) : 0 ≤ nxt l j m ∧ nxt l j m < m := by
  unfold nxt; split
  · exact ⟨Int.emod_nonneg _ (by omega), Int.emod_lt_of_pos _ (by omega)⟩
  · omega
theorem mk_From_k (xs : List Int) : FnOk Try.prog F.mk_From [Li xs] [] 0 (.one (.vptr 0 0)) [(0, Src xs 0)] 1 := by
  refine fnOk tab mix G.mk_From rfl rfl (by kernel_rfl) rfl rfl ?_
  repeat' ((conv => whnf); first | refine ask_m (fun h => ?_) (fun h => ?_) | refine ret0 ?_)
  exact ⟨[], ⟨rfl, trivial⟩, ⟨rfl, trivial⟩⟩
theorem mk_Next_k (xs : List Int) (k : Nat) (m : Int) (hm : 0 < m) (hm2 : m ≤ 4611686018427387904) (hx : xs.length ≤ 4611686018427387904) (hk : k ≤ xs.length) : FnOk Try.prog F.mk_Source_Next [.one (.vptr 0 0), I m] [(0, Src xs k)] 1 (I (nxt xs k m)) [(0, Src xs (adv xs k))] 1 := by
  refine fnOk tab mix G.mk_Source_Next rfl rfl (by kernel_rfl) rfl rfl ?_
  repeat' ((conv => whnf); first | refine ask_m (fun h => ?_) (fun h => ?_) | refine ret0 ?_)
  · have hl : ¬ k < xs.length := by simp at h; omega
    have h1 : nxt xs k m = 0 := by unfold nxt; rw [List.getElem?_eq_none (by omega)]
    have h2 : adv xs k = k := by simp [adv, hl]
    rw [h1, h2]
    exact ⟨[], ⟨rfl, trivial⟩, ⟨rfl, trivial⟩⟩
  · have hl : k < xs.length := by simp at h; omega
    obtain ⟨x, hxk⟩ : ∃ x, xs[k]? = some x := ⟨_, List.getElem?_eq_getElem hl⟩
    have h1 : nxt xs k m = x % m := by unfold nxt; rw [hxk]
    have h2 : adv xs k = k + 1 := by simp [adv, hl]
    have w1 : IntKind.i64.wrap ((k : Int) + 1) = ((k + 1 : Nat) : Int) := by rw [w64] <;> omega
    have w2 : IntKind.i64.wrap (((k + 1 : Nat) : Int) - 1) = k := by rw [w64] <;> omega
    rw [h1, h2]
    (conv => whnf)
    rw [w1, w2]
    refine ⟨by omega, idx_map (by simpa using hxk) ?_⟩
    (conv => whnf)
    refine ⟨_, _, _, mk_Round x m hm hm2, ?_⟩
    (conv => whnf)
    refine ret0 ?_
    exact ⟨[], ⟨rfl, trivial⟩, ⟨rfl, trivial⟩⟩
/-- a source of which j numbers have been asked -/
abbrev SrcJ (l : List Int) (j : Nat) : Box := Src l (min j l.length)
theorem nxt_min {l : List Int} {j : Nat} {m : Int} : nxt l (min j l.length) m = nxt l j m := by
  unfold nxt
  by_cases h : j < l.length
  · rw [Nat.min_eq_left (by omega)]
  · rw [Nat.min_eq_right (by omega), List.getElem?_eq_none (Nat.le_refl _), List.getElem?_eq_none (by omega)]
theorem adv_min {l : List Int} {j : Nat} : adv l (min j l.length) = min (j + 1) l.length := by
  unfold adv; split <;> omega
theorem mk_Next (l : List Int) (j : Nat) (m : Int) (hm : 0 < m) (hm2 : m ≤ 4611686018427387904) (hl : l.length ≤ 4611686018427387904) : FnOk Try.prog F.mk_Source_Next [.one (.vptr 0 0), I m] [(0, SrcJ l j)] 1 (I (nxt l j m)) [(0, SrcJ l (j + 1))] 1 := by
  have := mk_Next_k l (min j l.length) m hm hm2 hl (by omega)
  rw [nxt_min, adv_min] at this
  exact this
theorem mk_From (l : List Int) : FnOk Try.prog F.mk_From [Li l] [] 0 (.one (.vptr 0 0)) [(0, SrcJ l 0)] 1 := by
  show FnOk Try.prog F.mk_From [Li l] [] 0 (.one (.vptr 0 0)) [(0, Src l (min 0 l.length))] 1
  rw [Nat.zero_min]
  exact mk_From_k l
theorem mk_Signed (l : List Int) (j : Nat) (m M : Int) (hM : 2 * m + 1 = M) (hm : 0 < m) (hm2 : m ≤ 1152921504606846976) (hl : l.length ≤ 4611686018427387904) : FnOk Try.prog F.mk_Source_Signed [.one (.vptr 0 0), I m] [(0, SrcJ l j)] 1 (I (nxt l j M - m)) [(0, SrcJ l (j + 1))] 1 := by
  refine fnOk tab mix G.mk_Source_Signed rfl rfl (by kernel_rfl) rfl rfl ?_
  have w1 : IntKind.i64.wrap (2 * m) = 2 * m := by rw [w64] <;> omega
  have w2 : IntKind.i64.wrap (2 * m + 1) = M := by rw [w64] <;> omega
  have hn := nxt_bd (l := l) (j := j) (m := M) (by omega)
  have w3 : IntKind.i64.wrap (nxt l j M - m) = nxt l j M - m := by rw [w64] <;> omega
  (conv => whnf)
  rw [w1, w2]
  refine ⟨_, _, _, mk_Next l j M (by omega) (by omega) hl, ?_⟩
  (conv => whnf)
  refine ret0 ?_
  exact ⟨[], ⟨eqI w3, trivial⟩, ⟨rfl, trivial⟩⟩

/- data of the parameters' types -/
theorem ty_int64 {n : Nat} {ds : List DV} (h : Typed T (n + 1) Y.int64 ds) : ∃ a, ds = encI a := by
  obtain ⟨a, h, _⟩ := h
  exact ⟨a, h⟩
theorem ty_int {n : Nat} {ds : List DV} (h : Typed T (n + 1) Y.int ds) : ∃ a, ds = encI a := by
  obtain ⟨a, h, _⟩ := h
  exact ⟨a, h⟩
theorem ty_s_int {n : Nat} {ds : List DV} (h : Typed T (n + 2) Y.s_int ds) : ∃ xs : List Int, ds = [.lst 1 (xs.map encI)] ∧ xs.length ≤ 17592186044416 := by
  obtain ⟨rs, h1, h2, _, h3⟩ := h
  obtain ⟨xs, rfl⟩ := map_of (enc := encI) fun r hr => ty_int (h3 r hr)
  refine ⟨xs, h1, ?_⟩
  have : xs.length * 8 ≤ reachBytes := by simpa using h2
  unfold reachBytes at this; omega
/- the same, each with a bound -/
theorem tyB_int {n : Nat} {ds : List DV} (h : Typed T (n + 1) Y.int ds) : ∃ a, ds = encI a ∧ True := by
  obtain ⟨a, h⟩ := ty_int h
  exact ⟨a, h, trivial⟩
theorem tyB_s_int {n : Nat} {ds : List DV} (h : Typed T (n + 2) Y.s_int ds) : ∃ xs : List Int, ds = [.lst 1 (xs.map encI)] ∧ xs.length ≤ 17592186044416 := ty_s_int h
end Go.Proofs.Ytgnblfojpcjgmaa
