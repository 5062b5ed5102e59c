import Derived.Test.YtejjkajknmhplaaX15
import Derived.Test.YtejjkajknmhplaaEngG
namespace Go.Proofs.Ytejjkajknmhplaa
open Eng
set_option maxRecDepth 10000

theorem own : ownKnob Try.prog.godebug = none := by kernel_rfl
theorem laid : laidOutB Try.prog = true := by kernel_rfl
theorem map_of {α : Type} {enc : α → List DV} : ∀ {rs : List (List DV)}, (∀ r ∈ rs, ∃ a, r = enc a) → ∃ xs : List α, rs = xs.map enc
  | [], _ => ⟨[], rfl⟩
  | r :: rs, h => by
    obtain ⟨a, ha⟩ := h r (by simp)
    obtain ⟨xs, hx⟩ := map_of (rs := rs) fun r hr => h r (by simp [hr])
    exact ⟨a :: xs, by rw [ha, hx]; rfl⟩
theorem typed2 {n : Nat} {ds : List DV} (h : Typed T (n + 1) 2 ds) : ∃ a, ds = encI a := by
  obtain ⟨a, h, _⟩ := h
  exact ⟨a, h⟩
theorem typed3 {n : Nat} {ds : List DV} (h : Typed T (n + 1) 3 ds) : ∃ a, ds = encI a := by
  obtain ⟨a, h, _⟩ := h
  exact ⟨a, h⟩
theorem all2_cons {α β : Type} {R : α → β → Prop} {a : α} {l : List α} {r : List β} (h : All2 R (a :: l) r) : ∃ b r', r = b :: r' ∧ R a b ∧ All2 R l r' := by
  cases r with
  | nil => exact h.elim
  | cons b r => exact ⟨b, r, rfl, h.1, h.2⟩
theorem all2_nil {α β : Type} {R : α → β → Prop} {r : List β} (h : All2 R [] r) : r = [] := by
  cases r with
  | nil => rfl
  | cons b r => exact h.elim
theorem typed25 {n : Nat} {ds : List DV} (h : Typed T (n + 2) 25 ds) : ∃ r, ds = encR r := by
  obtain ⟨ps, h1, h2⟩ := (show ∃ ps, All2 (fun (f : Nat × Nat) p => Typed T (n + 1) f.2 p) [(0, 3), (1, 2), (2, 2), (3, 2)] ps ∧ ds = ps.flatten from h)
  obtain ⟨a, q, rfl, ha, h1⟩ := all2_cons h1
  obtain ⟨b, q, rfl, hb, h1⟩ := all2_cons h1
  obtain ⟨c, q, rfl, hc, h1⟩ := all2_cons h1
  obtain ⟨d, q, rfl, hd, h1⟩ := all2_cons h1
  obtain rfl := all2_nil h1
  obtain ⟨a, rfl⟩ := typed3 ha
  obtain ⟨b, rfl⟩ := typed2 hb
  obtain ⟨c, rfl⟩ := typed2 hc
  obtain ⟨d, rfl⟩ := typed2 hd
  exact ⟨⟨a, b, c, d⟩, h2⟩
theorem typed22 {n : Nat} {ds : List DV} (h : Typed T (n + 2) 22 ds) : ∃ xs : List Int, ds = [.lst 1 (xs.map encI)] ∧ xs.length ≤ 17592186044416 := by
  obtain ⟨rs, h1, h2, _, h3⟩ := h
  obtain ⟨xs, rfl⟩ := map_of (enc := encI) fun r hr => typed2 (h3 r hr)
  refine ⟨xs, h1, ?_⟩
  have : xs.length * 8 ≤ reachBytes := by simpa using h2
  unfold reachBytes at this; omega
theorem typed26 {n : Nat} {ds : List DV} (h : Typed T (n + 2) 26 ds) : ∃ xs : List Int, ds = [.lst 1 (xs.map encI)] ∧ xs.length ≤ 17592186044416 := by
  obtain ⟨rs, h1, h2, _, h3⟩ := h
  obtain ⟨xs, rfl⟩ := map_of (enc := encI) fun r hr => typed3 (h3 r hr)
  refine ⟨xs, h1, ?_⟩
  have : xs.length * 8 ≤ reachBytes := by simpa using h2
  unfold reachBytes at this; omega
theorem typed23 {n : Nat} {ds : List DV} (h : Typed T (n + 3) 23 ds) : ∃ xs : List Row, ds = [.lst 4 (xs.map encR)] ∧ xs.length ≤ 17592186044416 := by
  obtain ⟨rs, h1, h2, _, h3⟩ := h
  obtain ⟨xs, rfl⟩ := map_of (enc := encR) fun r hr => typed25 (h3 r hr)
  refine ⟨xs, h1, ?_⟩
  have : xs.length * 32 ≤ reachBytes := by simpa using h2
  unfold reachBytes at this; omega
end Go.Proofs.Ytejjkajknmhplaa
