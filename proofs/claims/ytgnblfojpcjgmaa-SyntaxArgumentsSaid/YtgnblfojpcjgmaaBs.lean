/- Bytes and texts as parameters; tables of texts. -/
import Derived.Test.YtgnblfojpcjgmaaBa
namespace Go.Proofs.Ytgnblfojpcjgmaa
open Eng
set_option maxRecDepth 10000

def encB (n : Int) : List DV := [.int .u8 n]
abbrev Lb (xs : List Int) : SV := .one (.dv (.lst 1 (xs.map encB)))
def bytesOk (xs : List Int) : Prop := xs.length ≤ 140737488351232 ∧ ∀ x ∈ xs, 0 ≤ x ∧ x < 256
theorem wf_u8 {a : Int} (h : (Lit.int .u8 a).wf = true) : 0 ≤ a ∧ a < 256 := by
  have h' : IntKind.u8.min ≤ a ∧ a ≤ IntKind.u8.max := by simpa [Lit.wf] using h
  have e1 : IntKind.u8.min = 0 := by decide
  have e2 : IntKind.u8.max = 255 := by decide
  omega
theorem tyB_uint8 {n : Nat} {ds : List DV} (h : Typed T (n + 1) Y.uint8 ds) : ∃ a, ds = encB a ∧ 0 ≤ a ∧ a < 256 := by
  obtain ⟨a, h1, h2⟩ := h
  exact ⟨a, h1, wf_u8 h2⟩
theorem tyB_s_uint8 {n : Nat} {ds : List DV} (h : Typed T (n + 2) Y.s_uint8 ds) : ∃ xs : List Int, ds = [.lst 1 (xs.map encB)] ∧ bytesOk xs := by
  obtain ⟨rs, h1, h2, _, h3⟩ := h
  have key : ∀ rs : List (List DV), (∀ r ∈ rs, Typed T (n + 1) Y.uint8 r) → ∃ xs : List Int, rs = xs.map encB ∧ ∀ x ∈ xs, 0 ≤ x ∧ x < 256 := by
    intro rs
    induction rs with
    | nil => intro _; exact ⟨[], rfl, by simp⟩
    | cons r rs ih =>
      intro h
      obtain ⟨a, e, ha⟩ := tyB_uint8 (h r (by simp))
      obtain ⟨xs, e', hx⟩ := ih fun r hr => h r (by simp [hr])
      exact ⟨a :: xs, by rw [e, e']; rfl, fun x hx' => by
        rcases List.mem_cons.1 hx' with rfl | hx'
        · exact ha
        · exact hx x hx'⟩
  obtain ⟨xs, rfl, hx⟩ := key rs h3
  refine ⟨xs, h1, ?_, hx⟩
  have : xs.length * 1 ≤ reachBytes := by simpa using h2
  unfold reachBytes at this; omega
theorem tyB_string {n : Nat} {ds : List DV} (h : Typed T (n + 1) Y.string ds) : ∃ s : ByteArray, ds = [.str s] ∧ s.size ≤ 140737488351232 := by
  obtain ⟨s, h1, h2⟩ := h
  refine ⟨s, h1, ?_⟩
  unfold reachBytes at h2; omega
/-- the text of a table -/
theorem arr_text {te : TI} {tb : List ByteArray} {i : Nat} {s : ByteArray} {k : SV → Prop} (ha : te.kind.agg = false) (hs : te.size = 1) (hc : tb[i]? = some s) (h : k (Tx s)) : arrF te (tb.map fun s => CV.dv (.str s)) i k :=
  arr_at ha hs (by rw [List.getElem?_map, hc]; rfl) h
/-- texts of a table, one behind the other -/
def cat (f : Int → ByteArray) (xs : List Int) : ByteArray := xs.foldl (fun s x => s ++ f x) ByteArray.empty
theorem cat_succ {f : Int → ByteArray} {xs : List Int} {k : Nat} {x : Int} (h : xs[k]? = some x) : cat f (xs.take (k + 1)) = cat f (xs.take k) ++ f x := by
  rw [List.take_add_one, h, cat, List.foldl_append]; rfl
theorem cat_size {f : Int → ByteArray} {c : Nat} (hf : ∀ x, (f x).size ≤ c) (xs : List Int) : (cat f xs).size ≤ xs.length * c := by
  have key : ∀ (xs : List Int) (s : ByteArray), (xs.foldl (fun s x => s ++ f x) s).size ≤ s.size + xs.length * c := by
    intro xs
    induction xs with
    | nil => intro s; simp
    | cons x xs ih =>
      intro s
      have := ih (s ++ f x)
      rw [ByteArray.size_append] at this
      have := hf x
      simp only [List.foldl_cons, List.length_cons, Nat.succ_mul]
      omega
  have := key xs ByteArray.empty
  simpa [cat] using this
theorem u8mod {x m : Int} (h0 : 0 ≤ x) (hm : 0 < m) : x.tmod m = x % m := Int.tmod_eq_emod_of_nonneg h0
end Go.Proofs.Ytgnblfojpcjgmaa
