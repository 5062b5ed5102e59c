import Derived.Test.YtejjkajknmhplaaX6
namespace Go.Proofs.Ytejjkajknmhplaa
open Eng
set_option maxRecDepth 10000
attribute [local irreducible] FnOk loopW idxF retX

theorem valid_iff {top : List Int} {rows : List Row} : valid top rows = true ↔ 2 ≤ top.length ∧ top.length ≤ 65 ∧ rows.length ≤ 16384 ∧ (∀ v ∈ top, 0 ≤ v ∧ v ≤ 4096) ∧ ∀ r ∈ rows, rowIn r top.length ∧ ¬ (0 < r.a ∧ 0 < r.b) := by
  simp only [valid, Bool.and_eq_true, decide_eq_true_eq, List.all_eq_true, lvl, validRow, rowIn, Bool.not_eq_true', Bool.and_eq_false_iff, decide_eq_false_iff_not, and_assoc]
  constructor
  · rintro ⟨h1, h2, h3, h4, h5⟩
    exact ⟨h1, h2, h3, h4, fun r hr => by obtain ⟨a, b, c, d⟩ := h5 r hr; exact ⟨a, by omega, c, by rintro ⟨e, f⟩; rcases d with d | d <;> contradiction⟩⟩
  · rintro ⟨h1, h2, h3, h4, h5⟩
    refine ⟨h1, h2, h3, h4, fun r hr => ?_⟩
    obtain ⟨a, b, c, d⟩ := h5 r hr
    refine ⟨a, by omega, c, ?_⟩
    by_cases e : 0 < r.a
    · exact .inr fun f => d ⟨e, f⟩
    · exact .inl e
def low (p : Int × Int) : Bool := decide (0 ≤ p.1) && decide (p.1 ≤ p.2)
/-- Feasible -/
def feas (top : List Int) (rows : List Row) (x : List Int) : Bool := valid top rows && decide (x.length = top.length) && (x.zip top).all low && rows.all (sat · x)
theorem zip_at {x top : List Int} {k : Nat} {a b : Int} (ha : x[k]? = some a) (hb : top[k]? = some b) : (x.zip top)[k]? = some (a, b) := by
  rw [List.getElem?_zip_eq_some]; exact ⟨ha, hb⟩
theorem mild_of_low {x top : List Int} (hl : x.length = top.length) (ht : ∀ v ∈ top, 0 ≤ v ∧ v ≤ 4096) (h : (x.zip top).all low = true) : mild x := by
  intro v hv
  obtain ⟨k, hk⟩ := List.getElem?_of_mem hv
  have hkl : k < top.length := by have := (List.getElem?_eq_some_iff.1 hk).1; omega
  have hz := zip_at hk (List.getElem?_eq_getElem hkl)
  have := List.all_eq_true.1 h _ (List.mem_of_getElem? hz)
  have ht' := ht top[k] (List.getElem_mem hkl)
  simp only [low, Bool.and_eq_true, decide_eq_true_eq] at this
  omega
theorem f18_ok (top : List Int) (rows : List Row) (x : List Int) (hr : rows.length ≤ 4611686018427387904) : FnOk Try.prog 18 [Li top, Lr rows, Li x] [] 0 (Bo (feas top rows x)) [] 0 := by
  refine fnOk tab mix Try.func18 rfl rfl (by kernel_rfl) rfl rfl ?_
  repeat' ((conv => whnf); first | refine ask_m (fun h => ?_) (fun h => ?_) | refine ret0 ?_ | refine call_i (f40_ok top rows hr) ?_)
  · exact ret_b (by simp_all [feas]) rfl
  · exact ret_b (by
      have : ¬ x.length = top.length := by simp at h; omega
      simp [feas, this]) rfl
  rename_i hv
  have hv : valid top rows = true := by simpa using hv
  obtain ⟨v1, v2, v3, v4, v5⟩ := valid_iff.1 hv
  have hl : x.length = top.length := by simp at h; omega
  refine loop_intro (fun k : Nat => ⟨[(0, Li top), (1, Lr rows), (2, Li x), (21, I top.length), (22, I k)], [], 0⟩) (fun k => k ≤ x.length ∧ ((x.zip top).take k).all low = true) (fun k => x.length - k) [] 0 [] ⟨Nat.zero_le _, rfl⟩ ⟨⟨rfl, rfl, rfl, eqI (by simp), rfl, trivial⟩, trivial⟩ ?_
  rintro k ⟨hk, hall⟩
  (conv => whnf)
  refine ask_m (fun h => ?_) (fun h => ?_)
  · have hlt : k < x.length := by simp at h; omega
    obtain ⟨a, hx⟩ : ∃ a, x[k]? = some a := ⟨_, List.getElem?_eq_getElem hlt⟩
    obtain ⟨b, hy⟩ : ∃ b, top[k]? = some b := ⟨_, List.getElem?_eq_getElem (by omega)⟩
    have hz := zip_at hx hy
    have hkk : IntKind.i64.wrap ((k : Int) + 1) = ((k + 1 : Nat) : Int) := by rw [w64] <;> omega
    (conv => whnf)
    refine idx_and (by omega) (by simpa using hx) ?_
    (conv => whnf)
    refine ask_m (fun h => ?_) (fun h => ?_)
    · repeat' ((conv => whnf); first | refine ask_m (fun h => ?_) (fun h => ?_) | refine ret0 ?_)
      exact ret_b (by
        have : low (a, b) = false := by simp at h; simp [low]; omega
        simp [feas, all_not hz this]) rfl
    · (conv => whnf)
      refine idx_and (by omega) (by simpa using hx) ?_
      (conv => whnf)
      refine idx_and (by omega) (by simpa using hy) ?_
      repeat' ((conv => whnf); first | refine ask_m (fun h => ?_) (fun h => ?_) | refine ret0 ?_)
      · exact ret_b (by
          have : low (a, b) = false := by simp_all [low]
          simp [feas, all_not hz this]) rfl
      · exact ⟨k + 1, [], ⟨hlt, all_take hall hz (by simp_all [low])⟩, by omega, ⟨⟨rfl, rfl, rfl, rfl, eqI hkk, trivial⟩, trivial⟩⟩
  · have hk : k = x.length := by simp at h; omega
    subst hk
    rw [List.take_of_length_le (by simp; omega)] at hall
    have hm := mild_of_low hl v4 hall
    (conv => whnf)
    refine loop_intro (fun k : Nat => ⟨[(0, Li top), (1, Lr rows), (2, Li x), (43, I rows.length), (44, I k)], [], 0⟩) (fun k => k ≤ rows.length ∧ (rows.take k).all (sat · x) = true) (fun k => rows.length - k) [] 0 [] ⟨Nat.zero_le _, rfl⟩ ⟨⟨rfl, rfl, rfl, eqI (by simp), rfl, trivial⟩, trivial⟩ ?_
    rintro k ⟨hk, hall2⟩
    (conv => whnf)
    refine ask_m (fun h => ?_) (fun h => ?_)
    · have hlt : k < rows.length := by simpa using h
      obtain ⟨r, hx⟩ : ∃ x, rows[k]? = some x := ⟨_, List.getElem?_eq_getElem hlt⟩
      have hri := (v5 r (List.mem_of_getElem? hx)).1
      have hkk : IntKind.i64.wrap ((k : Int) + 1) = ((k + 1 : Nat) : Int) := by rw [w64] <;> omega
      repeat' ((conv => whnf); first | refine ask_m (fun h => ?_) (fun h => ?_) | refine ret0 ?_ | refine idx_and (by omega) (by simpa using hx) ?_ | refine call_i (f41_sat r x (hl ▸ hri) hm (by omega)) ?_)
      · exact ret_b (by
          have : sat r x = false := by simpa using h
          have := all_not (f := (sat · x)) hx this
          simp [feas, this]) rfl
      · exact ⟨k + 1, [], ⟨hlt, all_take hall2 hx (by simpa using h)⟩, by omega, ⟨⟨rfl, rfl, rfl, rfl, eqI hkk, trivial⟩, trivial⟩⟩
    · have hk : k = rows.length := by simp at h; omega
      subst hk
      rw [List.take_length] at hall2
      (conv => whnf)
      refine ret0 ?_
      exact ret_b (by simp [feas, hv, hl, hall, hall2]) rfl
theorem f20_ok (top : List Int) (rows : List Row) (x : List Int) (hr : rows.length ≤ 4611686018427387904) : FnOk Try.prog 20 [Li top, Lr rows, Li x] [] 0 (Bo (feas top rows x)) [] 0 := by
  refine fnOk tab mix Try.func20 rfl rfl (by kernel_rfl) rfl rfl ?_
  repeat' ((conv => whnf); first | refine ask_m (fun h => ?_) (fun h => ?_) | refine ret0 ?_ | refine call_i (f44_ok top rows hr) ?_)
  · exact ret_b (by simp_all [feas]) rfl
  · exact ret_b (by
      have : ¬ x.length = top.length := by simp at h; omega
      simp [feas, this]) rfl
  rename_i hv
  have hv : valid top rows = true := by simpa using hv
  obtain ⟨v1, v2, v3, v4, v5⟩ := valid_iff.1 hv
  have hl : x.length = top.length := by simp at h; omega
  refine loop_intro (fun k : Nat => ⟨[(0, Li top), (1, Lr rows), (2, Li x), (7, I k)], [], 0⟩) (fun k => k ≤ x.length ∧ ((x.zip top).take k).all low = true) (fun k => x.length - k) [] 0 [] ⟨Nat.zero_le _, rfl⟩ ⟨⟨rfl, rfl, rfl, rfl, trivial⟩, trivial⟩ ?_
  rintro k ⟨hk, hall⟩
  (conv => whnf)
  refine ask_m (fun h => ?_) (fun h => ?_)
  · have hlt : k < x.length := by simp at h; omega
    obtain ⟨a, hx⟩ : ∃ a, x[k]? = some a := ⟨_, List.getElem?_eq_getElem hlt⟩
    obtain ⟨b, hy⟩ : ∃ b, top[k]? = some b := ⟨_, List.getElem?_eq_getElem (by omega)⟩
    have hz := zip_at hx hy
    have hkk : IntKind.i64.wrap ((k : Int) + 1) = ((k + 1 : Nat) : Int) := by rw [w64] <;> omega
    (conv => whnf)
    refine idx_and (by omega) (by simpa using hx) ?_
    (conv => whnf)
    refine ask_m (fun h => ?_) (fun h => ?_)
    · repeat' ((conv => whnf); first | refine ask_m (fun h => ?_) (fun h => ?_) | refine ret0 ?_)
      exact ret_b (by
        have : low (a, b) = false := by simp at h; simp [low]; omega
        simp [feas, all_not hz this]) rfl
    · (conv => whnf)
      refine idx_and (by omega) (by simpa using hx) ?_
      (conv => whnf)
      refine idx_and (by omega) (by simpa using hy) ?_
      repeat' ((conv => whnf); first | refine ask_m (fun h => ?_) (fun h => ?_) | refine ret0 ?_)
      · exact ret_b (by
          have : low (a, b) = false := by simp_all [low]
          simp [feas, all_not hz this]) rfl
      · exact ⟨k + 1, [], ⟨hlt, all_take hall hz (by simp_all [low])⟩, by omega, ⟨⟨rfl, rfl, rfl, eqI hkk, trivial⟩, trivial⟩⟩
  · have hk : k = x.length := by simp at h; omega
    subst hk
    rw [List.take_of_length_le (by simp; omega)] at hall
    have hm := mild_of_low hl v4 hall
    (conv => whnf)
    refine loop_intro (fun k : Nat => ⟨[(0, Li top), (1, Lr rows), (2, Li x), (8, I k)], [], 0⟩) (fun k => k ≤ rows.length ∧ (rows.take k).all (sat · x) = true) (fun k => rows.length - k) [] 0 [] ⟨Nat.zero_le _, rfl⟩ ⟨⟨rfl, rfl, rfl, rfl, trivial⟩, trivial⟩ ?_
    rintro k ⟨hk, hall2⟩
    (conv => whnf)
    refine ask_m (fun h => ?_) (fun h => ?_)
    · have hlt : k < rows.length := by simpa using h
      obtain ⟨r, hx⟩ : ∃ x, rows[k]? = some x := ⟨_, List.getElem?_eq_getElem hlt⟩
      have hri := (v5 r (List.mem_of_getElem? hx)).1
      have hkk : IntKind.i64.wrap ((k : Int) + 1) = ((k + 1 : Nat) : Int) := by rw [w64] <;> omega
      repeat' ((conv => whnf); first | refine ask_m (fun h => ?_) (fun h => ?_) | refine ret0 ?_ | refine idx_and (by omega) (by simpa using hx) ?_ | refine call_i (f45_sat r x (hl ▸ hri) hm (by omega)) ?_)
      · exact ret_b (by
          have : sat r x = false := by simpa using h
          have := all_not (f := (sat · x)) hx this
          simp [feas, this]) rfl
      · exact ⟨k + 1, [], ⟨hlt, all_take hall2 hx (by simpa using h)⟩, by omega, ⟨⟨rfl, rfl, rfl, eqI hkk, trivial⟩, trivial⟩⟩
    · have hk : k = rows.length := by simp at h; omega
      subst hk
      rw [List.take_length] at hall2
      (conv => whnf)
      refine ret0 ?_
      exact ret_b (by simp [feas, hv, hl, hall, hall2]) rfl
end Go.Proofs.Ytejjkajknmhplaa
