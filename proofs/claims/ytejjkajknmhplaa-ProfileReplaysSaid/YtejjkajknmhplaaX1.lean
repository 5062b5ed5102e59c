import Derived.Test.YtejjkajknmhplaaTy
import Derived.Test.YtejjkajknmhplaaRows
namespace Go.Proofs.Ytejjkajknmhplaa
open Eng
set_option maxRecDepth 10000
attribute [local irreducible] FnOk loopW idxF retX
theorem w64 {x : Int} (h1 : -9223372036854775808 ≤ x) (h2 : x ≤ 9223372036854775807) : IntKind.i64.wrap x = x := by
  rw [IntKind.wrap_i64]; omega
abbrev I (n : Int) : SV := .one (.dv (.int .i64 n))
abbrev Bo (b : Bool) : SV := .one (.dv (.bool b))
theorem eqI {a b : Int} (h : a = b) : I a = I b := by rw [h]
structure Row where
  cell : Int
  a : Int
  b : Int
  c : Int
def encI (n : Int) : List DV := [.int .i64 n]
def encR (r : Row) : List DV := [.int .i64 r.cell, .int .i64 r.a, .int .i64 r.b, .int .i64 r.c]
abbrev Li (xs : List Int) : SV := .one (.dv (.lst 1 (xs.map encI)))
abbrev Lr (xs : List Row) : SV := .one (.dv (.lst 4 (xs.map encR)))
abbrev Rw (r : Row) : SV := .agg [.dv (.int .i64 r.cell), .dv (.int .i64 r.a), .dv (.int .i64 r.b), .dv (.int .i64 r.c)]

def within (x y : Int) : Bool := decide (-y ≤ x) && decide (x ≤ y)
theorem f49_ok (x y : Int) (h0 : 0 ≤ y) (h1 : y ≤ 4611686018427387904) : FnOk Try.prog 49 [I x, I y] [] 0 (Bo (within x y)) [] 0 := by
  refine fnOk tab mix Try.func49 rfl rfl (by kernel_rfl) rfl rfl ?_
  have hw : IntKind.i64.wrap (0 - y) = -y := by rw [w64] <;> omega
  repeat' ((conv => whnf); first | refine ask_m (fun h => ?_) (fun h => ?_) | refine ret0 ?_)
  all_goals (conv => whnf)
  all_goals exact ret_b (by rw [hw] at h; simp [within, h]) rfl
def bounded (r : Row) : Bool := within r.a 1073741824 && within r.b 1073741824 && within r.c 1152921504606846976
theorem f48_ok (r : Row) : FnOk Try.prog 48 [Rw r] [] 0 (Bo (bounded r)) [] 0 := by
  refine fnOk tab mix Try.func48 rfl rfl (by kernel_rfl) rfl rfl ?_
  repeat' ((conv => whnf); first | refine ask_m (fun h => ?_) (fun h => ?_) | refine ret0 ?_ | refine ⟨_, _, _, f49_ok _ _ (by decide) (by decide), ?_⟩)
  all_goals (conv => whnf)
  all_goals exact ret_b (by simp_all [bounded]) rfl
theorem f57_ok (r : Row) : FnOk Try.prog 57 [Rw r] [] 0 (Bo (bounded r)) [] 0 := by
  refine fnOk tab mix Try.func57 rfl rfl (by kernel_rfl) rfl rfl ?_
  repeat' ((conv => whnf); first | refine ask_m (fun h => ?_) (fun h => ?_) | refine ret0 ?_)
  all_goals (conv => whnf)
  all_goals exact ret_b (by simp_all [bounded, within] <;> omega) rfl
theorem f41_ok (r : Row) (xs : List Int) (p q : Int) (h0 : 0 ≤ r.cell) (hp : xs[r.cell.toNat]? = some p) (hq : xs[(r.cell + 1).toNat]? = some q) (hl : xs.length ≤ 4294967296) : FnOk Try.prog 41 [Rw r, Li xs] [] 0 (Bo (decide (IntKind.i64.wrap (IntKind.i64.wrap (r.a * p) + IntKind.i64.wrap (r.b * q)) ≤ r.c))) [] 0 := by
  refine fnOk tab mix Try.func41 rfl rfl (by kernel_rfl) rfl rfl ?_
  have hlt : r.cell.toNat < xs.length := (List.getElem?_eq_some_iff.1 hp).1
  have hc : IntKind.i64.wrap (r.cell + 1) = r.cell + 1 := by rw [w64] <;> omega
  conv => whnf
  refine ⟨h0, idx_map hp ?_⟩
  conv => whnf
  rw [hc]
  refine ⟨by omega, idx_map hq ?_⟩
  (conv => whnf)
  refine ret0 ?_
  (conv => whnf)
  exact ret_b rfl rfl

theorem f45_ok (r : Row) (xs : List Int) (p q : Int) (h0 : 0 ≤ r.cell) (hp : xs[r.cell.toNat]? = some p) (hq : xs[(r.cell + 1).toNat]? = some q) (hl : xs.length ≤ 4294967296) : FnOk Try.prog 45 [Rw r, Li xs] [] 0 (Bo (decide (IntKind.i64.wrap (IntKind.i64.wrap (r.a * p) + IntKind.i64.wrap (r.b * q)) ≤ r.c))) [] 0 := by
  refine fnOk tab mix Try.func45 rfl rfl (by kernel_rfl) rfl rfl ?_
  have hlt : r.cell.toNat < xs.length := (List.getElem?_eq_some_iff.1 hp).1
  have hc : IntKind.i64.wrap (r.cell + 1) = r.cell + 1 := by rw [w64] <;> omega
  (conv => whnf)
  refine ⟨h0, idx_map hp ?_⟩
  (conv => whnf)
  rw [hc]
  refine ⟨by omega, idx_map hq ?_⟩
  (conv => whnf)
  refine ret0 ?_
  (conv => whnf)
  exact ret_b rfl rfl

def validRow (n : Int) (r : Row) : Bool := decide (0 ≤ r.cell) && decide (r.cell ≤ n - 2) && bounded r && !(decide (0 < r.a) && decide (0 < r.b))
def lvl (x : Int) : Bool := decide (0 ≤ x) && decide (x ≤ 4096)
def valid (top : List Int) (rows : List Row) : Bool := decide (2 ≤ top.length) && decide (top.length ≤ 65) && decide (rows.length ≤ 16384) && top.all lvl && rows.all (validRow top.length)
theorem all_take {α : Type} {f : α → Bool} {xs : List α} {k : Nat} {x : α} (h : (xs.take k).all f = true) (hx : xs[k]? = some x) (hf : f x = true) : (xs.take (k + 1)).all f = true := by
  rw [List.take_add_one, hx]; simp [h, hf]
theorem all_not {α : Type} {f : α → Bool} {xs : List α} {k : Nat} {x : α} (hx : xs[k]? = some x) (hf : f x = false) : xs.all f = false := by
  rw [List.all_eq_false]; exact ⟨x, List.mem_of_getElem? hx, by simp [hf]⟩
theorem f40_ok (top : List Int) (rows : List Row) (hr : rows.length ≤ 4611686018427387904) : FnOk Try.prog 40 [Li top, Lr rows] [] 0 (Bo (valid top rows)) [] 0 := by
  refine fnOk tab mix Try.func40 rfl rfl (by kernel_rfl) rfl rfl ?_
  repeat' ((conv => whnf); first | refine ask_m (fun h => ?_) (fun h => ?_) | refine ret0 ?_)
  all_goals (conv => whnf)
  · exact ret_b (by simp_all [valid] <;> omega) rfl
  · exact ret_b (by simp_all [valid] <;> omega) rfl
  · exact ret_b (by simp_all [valid] <;> omega) rfl
  simp only [List.length_map, decide_eq_false_iff_not, Int.not_lt] at *
  refine loop_intro (fun k : Nat => ⟨[(0, Li top), (1, Lr rows), (22, Li top), (23, I top.length), (24, I k)], [], 0⟩) (fun k => k ≤ top.length ∧ (top.take k).all lvl = true) (fun k => top.length - k) [] 0 [] ⟨Nat.zero_le _, rfl⟩ ⟨⟨rfl, rfl, rfl, eqI (by simp), rfl, trivial⟩, trivial⟩ ?_
  rintro k ⟨hk, hall⟩
  (conv => whnf)
  refine ask_m (fun h => ?_) (fun h => ?_)
  · have hlt : k < top.length := by simpa using h
    obtain ⟨x, hx⟩ : ∃ x, top[k]? = some x := ⟨_, List.getElem?_eq_getElem hlt⟩
    (conv => whnf)
    refine ⟨by omega, idx_map (by simpa using hx) ?_⟩
    have hkk : IntKind.i64.wrap ((k : Int) + 1) = ((k + 1 : Nat) : Int) := by rw [w64] <;> omega
    repeat' ((conv => whnf); first | refine ask_m (fun h => ?_) (fun h => ?_) | refine ret0 ?_)
    all_goals (conv => whnf)
    · exact ret_b (by
        have : lvl x = false := by simp_all [lvl] <;> omega
        simp [valid, all_not hx this]) rfl
    · exact ret_b (by
        have : lvl x = false := by simp_all [lvl] <;> omega
        simp [valid, all_not hx this]) rfl
    · refine ⟨k + 1, [], ⟨hlt, all_take hall hx (by simp_all [lvl] <;> omega)⟩, by omega, ⟨⟨rfl, rfl, rfl, rfl, eqI hkk, trivial⟩, trivial⟩⟩
  · have hk : k = top.length := by simp at h; omega
    subst hk
    rw [List.take_length] at hall
    (conv => whnf)
    refine loop_intro (fun k : Nat => ⟨[(0, Li top), (35, Lr rows), (36, I rows.length), (37, I k)], [], 0⟩) (fun k => k ≤ rows.length ∧ (rows.take k).all (validRow top.length) = true) (fun k => rows.length - k) [] 0 [] ⟨Nat.zero_le _, rfl⟩ ⟨⟨rfl, rfl, eqI (by simp), rfl, trivial⟩, trivial⟩ ?_
    rintro k ⟨hk, hall2⟩
    (conv => whnf)
    refine ask_m (fun h => ?_) (fun h => ?_)
    · have hlt : k < rows.length := by simpa using h
      obtain ⟨x, hx⟩ : ∃ x, rows[k]? = some x := ⟨_, List.getElem?_eq_getElem hlt⟩
      (conv => whnf)
      refine ⟨by omega, idx_map (by simpa using hx) ?_⟩
      have hkk : IntKind.i64.wrap ((k : Int) + 1) = ((k + 1 : Nat) : Int) := by rw [w64] <;> omega
      have hll : IntKind.i64.wrap (((top.map encI).length : Int) - 2) = (top.length : Int) - 2 := by rw [w64] <;> simp <;> omega
      have hbad : validRow top.length x = false → valid top rows = false := fun h => by simp [valid, all_not hx h]
      repeat' ((conv => whnf); first | refine ask_m (fun h => ?_) (fun h => ?_) | refine ret0 ?_ | refine ⟨_, _, _, f48_ok x, ?_⟩)
      all_goals (conv => whnf)
      all_goals first
        | exact ret_b (hbad (by simp_all [validRow] <;> omega)).symm rfl
        | refine ⟨k + 1, [], ⟨hlt, all_take hall2 hx (by simp_all [validRow] <;> omega)⟩, by omega, ⟨⟨rfl, rfl, rfl, eqI hkk, trivial⟩, trivial⟩⟩
    · have hk : k = rows.length := by simp at h; omega
      subst hk
      rw [List.take_length] at hall2
      (conv => whnf)
      refine ret0 ?_
      (conv => whnf)
      exact ret_b (by simp [valid, hall, hall2]; omega) rfl
end Go.Proofs.Ytejjkajknmhplaa
