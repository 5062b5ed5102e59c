import Derived.Test.YtejjkajknmhplaaX4
namespace Go.Proofs.Ytejjkajknmhplaa
open Eng
set_option maxRecDepth 10000
attribute [local irreducible] FnOk loopW idxF retX

theorem tdiv_floor {a b : Int} (hb : 0 < b) : (a.tmod b < 0 → a.tdiv b - 1 = a / b) ∧ (¬ a.tmod b < 0 → a.tdiv b = a / b) := by
  have h1 := Int.tmod_eq_emod (a := a) (b := b)
  have h2 := Int.emod_nonneg a (b := b) (by omega)
  have h3 := Int.emod_lt_of_pos a hb
  have h4 := Int.mul_tdiv_add_tmod a b
  have h5 := Int.mul_ediv_add_emod a b
  have : (b.natAbs : Int) = b := by omega
  have key : ∀ c : Int, b * (a.tdiv b) + c = b * (a / b) → b * (a.tdiv b - a / b) = -c := fun c h => by rw [Int.mul_sub]; omega
  split at h1
  · refine ⟨fun h => by omega, fun _ => ?_⟩
    have := key 0 (by omega)
    have h0 : a.tdiv b - a / b = 0 := by
      rcases Int.mul_eq_zero.1 (show b * (a.tdiv b - a / b) = 0 by omega) with h | h <;> omega
    omega
  · refine ⟨fun h => ?_, fun h => by omega⟩
    have := key (-b) (by omega)
    have h0 : a.tdiv b - a / b = 1 := by
      have : b * (a.tdiv b - a / b - 1) = 0 := by rw [Int.mul_sub]; omega
      rcases Int.mul_eq_zero.1 this with h | h <;> omega
    omega
theorem tdiv_bd {a b : Int} (hb : 0 < b) (ha : -4611686018427387904 ≤ a ∧ a ≤ 4611686018427387904) : -4611686018427387904 ≤ a.tdiv b ∧ a.tdiv b ≤ 4611686018427387904 := by
  have h := Int.natAbs_tdiv_le_natAbs a b
  omega
theorem f56_ok (a b : Int) (hb : 0 < b) (ha : -4611686018427387904 ≤ a ∧ a ≤ 4611686018427387904) : FnOk Try.prog 56 [I a, I b] [] 0 (I (a / b)) [] 0 := by
  refine fnOk tab mix Try.func56 rfl rfl (by kernel_rfl) rfl rfl ?_
  obtain ⟨h1, h2⟩ := tdiv_floor (a := a) hb
  have h3 := tdiv_bd hb ha
  have w1 : IntKind.i64.wrap (a.tdiv b) = a.tdiv b := by rw [w64] <;> omega
  have w2 : IntKind.i64.wrap (a.tdiv b - 1) = a.tdiv b - 1 := by rw [w64] <;> omega
  (conv => whnf)
  refine ⟨by omega, ?_⟩
  (conv => whnf)
  refine ⟨by omega, ?_⟩
  repeat' ((conv => whnf); first | refine ask_m (fun h => ?_) (fun h => ?_) | refine ret0 ?_)
  · exact ret_i (by rw [w1, w2]; exact h1 (by simpa using h)) rfl
  · exact ret_i (by rw [w1]; exact h2 (by simpa using h)) rfl
theorem f58_ok (a b : Int) (hb : 0 < b) (ha : -4611686018427387904 ≤ a ∧ a ≤ 4611686018427387904) : FnOk Try.prog 58 [I a, I b] [] 0 (I (a / b)) [] 0 := by
  refine fnOk tab mix Try.func58 rfl rfl (by kernel_rfl) rfl rfl ?_
  obtain ⟨h1, h2⟩ := tdiv_floor (a := a) hb
  have h3 := tdiv_bd hb ha
  have w1 : IntKind.i64.wrap (a.tdiv b) = a.tdiv b := by rw [w64] <;> omega
  have w2 : IntKind.i64.wrap (a.tdiv b - 1) = a.tdiv b - 1 := by rw [w64] <;> omega
  (conv => whnf)
  refine ⟨by omega, ?_⟩
  (conv => whnf)
  refine ⟨by omega, ?_⟩
  repeat' ((conv => whnf); first | refine ask_m (fun h => ?_) (fun h => ?_) | refine ret0 ?_)
  · exact ret_i (by rw [w1, w2]; exact h1 (by simpa using h)) rfl
  · exact ret_i (by rw [w1]; exact h2 (by simpa using h)) rfl

/-- a level -/
abbrev lv (x : List Int) (i : Int) : Int := x.getD i.toNat 0
theorem lv_some {x : List Int} {i : Int} (h : i.toNat < x.length) : x[i.toNat]? = some (lv x i) := by
  rw [List.getElem?_eq_getElem h]; simp [lv, List.getD, h]
/-- levels that stay far from overflow -/
def mild (x : List Int) : Prop := ∀ v ∈ x, -1073741824 ≤ v ∧ v ≤ 1073741824
theorem mild_lv {x : List Int} (h : mild x) (i : Int) : -1073741824 ≤ lv x i ∧ lv x i ≤ 1073741824 := by
  unfold lv; rw [List.getD_eq_getElem?_getD]
  cases hx : x[i.toNat]? with
  | none => simp
  | some v => simpa using h v (List.mem_of_getElem? hx)
/-- a row whose numbers are in their ranges and whose cell lies in the list -/
def rowIn (r : Row) (n : Nat) : Prop := 0 ≤ r.cell ∧ r.cell + 1 < n ∧ bounded r = true
theorem bounded_iff {r : Row} : bounded r = true ↔ (-1073741824 ≤ r.a ∧ r.a ≤ 1073741824) ∧ (-1073741824 ≤ r.b ∧ r.b ≤ 1073741824) ∧ (-1152921504606846976 ≤ r.c ∧ r.c ≤ 1152921504606846976) := by
  simp [bounded, within, and_assoc]
theorem mul_bd {a b A B : Int} (ha : -A ≤ a ∧ a ≤ A) (hb : -B ≤ b ∧ b ≤ B) : -(A * B) ≤ a * b ∧ a * b ≤ A * B := by
  have h1 : a.natAbs ≤ A.natAbs := by omega
  have h2 : b.natAbs ≤ B.natAbs := by omega
  have h3 := Nat.mul_le_mul h1 h2
  rw [← Int.natAbs_mul, ← Int.natAbs_mul] at h3
  have : 0 ≤ A * B := Int.mul_nonneg (by omega) (by omega)
  omega
def sat (r : Row) (x : List Int) : Bool := decide (r.a * lv x r.cell + r.b * lv x (r.cell + 1) ≤ r.c)
theorem sat_wrap {r : Row} {x : List Int} {p q : Int} (hb : bounded r = true) (hp : -1073741824 ≤ p ∧ p ≤ 1073741824) (hq : -1073741824 ≤ q ∧ q ≤ 1073741824) :
    IntKind.i64.wrap (IntKind.i64.wrap (r.a * p) + IntKind.i64.wrap (r.b * q)) = r.a * p + r.b * q ∧ IntKind.i64.wrap (r.a * p) = r.a * p ∧ IntKind.i64.wrap (r.b * q) = r.b * q := by
  obtain ⟨h1, h2, h3⟩ := bounded_iff.1 hb
  have h4 := mul_bd h1 hp
  have h5 := mul_bd h2 hq
  have w1 : IntKind.i64.wrap (r.a * p) = r.a * p := by rw [w64] <;> omega
  have w2 : IntKind.i64.wrap (r.b * q) = r.b * q := by rw [w64] <;> omega
  refine ⟨?_, w1, w2⟩
  rw [w1, w2, w64] <;> omega
theorem f41_sat (r : Row) (x : List Int) (hr : rowIn r x.length) (hm : mild x) (hl : x.length ≤ 4294967296) : FnOk Try.prog 41 [Rw r, Li x] [] 0 (Bo (sat r x)) [] 0 := by
  have h := f41_ok r x (lv x r.cell) (lv x (r.cell + 1)) hr.1 (lv_some (by have := hr.2.1; have := hr.1; omega)) (lv_some (by have := hr.2.1; have := hr.1; omega)) hl
  rw [(sat_wrap (x := x) hr.2.2 (mild_lv hm _) (mild_lv hm _)).1] at h
  exact h
theorem f45_sat (r : Row) (x : List Int) (hr : rowIn r x.length) (hm : mild x) (hl : x.length ≤ 4294967296) : FnOk Try.prog 45 [Rw r, Li x] [] 0 (Bo (sat r x)) [] 0 := by
  have h := f45_ok r x (lv x r.cell) (lv x (r.cell + 1)) hr.1 (lv_some (by have := hr.2.1; have := hr.1; omega)) (lv_some (by have := hr.2.1; have := hr.1; omega)) hl
  rw [(sat_wrap (x := x) hr.2.2 (mild_lv hm _) (mild_lv hm _)).1] at h
  exact h

/-- the level that a row bounds, and its bound -/
def bnd (r : Row) (x : List Int) : Int × Int × Bool :=
  if 0 < r.a ∧ r.b ≤ 0 then (r.cell, (r.c - r.b * lv x (r.cell + 1)) / r.a, true)
  else if 0 < r.b ∧ r.a ≤ 0 then (r.cell + 1, (r.c - r.a * lv x r.cell) / r.b, true)
  else (0, 0, false)
abbrev T3 (p : Int × Int × Bool) : SV := .tup [(false, [.dv (.int .i64 p.1)]), (false, [.dv (.int .i64 p.2.1)]), (false, [.dv (.bool p.2.2)])]
theorem ret_T3 {np : Nat} {p : Int × Int × Bool} {a b : Int} {c : Bool} {m : List (Nat × Box)} {nR : Nat} (h : (a, b, c) = p) (hn : Nat.ble np nR = true) : ∃ ρ, le np ρ [(0, .tup [(false, [.dv (.int .i64 a)]), (false, [.dv (.int .i64 b)]), (false, [.dv (.bool c)])])] m ⟨[(0, T3 p)], [], nR⟩ := by
  subst h
  refine ⟨[], ?_⟩
  unfold le
  have : (St.ok ⟨[(0, T3 (a, b, c))], [], nR⟩ && injL [] [] && idB np [] && Nat.ble np nR) = true := by rw [hn]; rfl
  simp only
  rw [this]
  exact ⟨⟨rfl, trivial⟩, trivial⟩
theorem f43_ok (r : Row) (x : List Int) (hr : rowIn r x.length) (hm : mild x) (hl : x.length ≤ 4294967296) : FnOk Try.prog 43 [Rw r, Li x] [] 0 (T3 (bnd r x)) [] 0 := by
  refine fnOk tab mix Try.func43 rfl rfl (by kernel_rfl) rfl rfl ?_
  obtain ⟨h0, h1, hb⟩ := hr
  have hp := mild_lv hm r.cell
  have hq := mild_lv hm (r.cell + 1)
  obtain ⟨_, w1, w2⟩ := sat_wrap (x := x) hb hp hq
  obtain ⟨b1, b2, b3⟩ := bounded_iff.1 hb
  have m1 := mul_bd b1 hp
  have m2 := mul_bd b2 hq
  have w3 : IntKind.i64.wrap (r.cell + 1) = r.cell + 1 := by rw [w64] <;> omega
  have w4 : IntKind.i64.wrap (r.c - r.b * lv x (r.cell + 1)) = r.c - r.b * lv x (r.cell + 1) := by rw [w64] <;> omega
  have w5 : IntKind.i64.wrap (r.c - r.a * lv x r.cell) = r.c - r.a * lv x r.cell := by rw [w64] <;> omega
  repeat' ((conv => whnf); first | refine ask_m (fun h => ?_) (fun h => ?_) | refine ret0 ?_)
  all_goals (conv => whnf)
  all_goals first
    | (rw [w3]
       refine ⟨by omega, idx_map (lv_some (by omega)) ?_⟩
       (conv => whnf)
       rw [w2, w4]
       refine ⟨_, _, _, f56_ok _ _ (by simp_all) (by omega), ?_⟩
       (conv => whnf)
       refine ret0 ?_
       exact ret_T3 (by
        simp only [decide_eq_true_eq, decide_eq_false_iff_not] at *
        rw [bnd, if_pos (by omega)]) rfl)
    | (refine ⟨by omega, idx_map (lv_some (by omega)) ?_⟩
       (conv => whnf)
       rw [w1, w5, w3]
       refine ⟨_, _, _, f56_ok _ _ (by simp_all) (by omega), ?_⟩
       (conv => whnf)
       refine ret0 ?_
       exact ret_T3 (by
        simp only [decide_eq_true_eq, decide_eq_false_iff_not] at *
        rw [bnd, if_neg (by omega), if_pos (by omega)]) rfl)
    | exact ret_T3 (by
        simp only [decide_eq_true_eq, decide_eq_false_iff_not] at *
        rw [bnd, if_neg (by omega), if_neg (by omega)]) rfl
end Go.Proofs.Ytejjkajknmhplaa
