import Derived.Test.YtejjkajknmhplaaX16
namespace Go.Proofs.Ytejjkajknmhplaa
open Eng
set_option maxRecDepth 10000

theorem lim_tame (l : List Int) : tame (limTop l) := by
  obtain ⟨n1, n2, n3⟩ := limN_bd l
  refine ⟨by simp [limTop]; omega, fun v hv => ?_⟩
  obtain ⟨i, _, rfl⟩ := List.mem_map.1 hv
  have := nxt_bd (l := l) (j := 1 + i) (m := 30) (by omega)
  omega
theorem limTop_len (l : List Int) : (limTop l).length = limN l := by simp [limTop]
theorem limC_bd (l : List Int) : limC l ≤ 11 := by
  have := nxt_bd (l := l) (j := 1 + limN l) (m := 12) (by omega)
  unfold limC; omega
theorem limRows_len (l : List Int) : (limRows l).length ≤ 11 := by
  have := limC_bd l
  simp [limRows]; omega
theorem f16_app (a : List Int) (b : List Row) (r : Row) (hb : b.length ≤ 4294967296) (ha : a.length ≤ 17592186044416) : FnOk Try.prog 16 [Li a, .one (.dv (.lst 4 (b.map encR ++ [[.int .i64 r.cell, .int .i64 r.a, .int .i64 r.b, .int .i64 r.c]])))] [] 0 (Bo true) [] 0 := by
  have := f16_ok a (b ++ [r]) (by simp; omega) ha
  simp only [Lr, List.map_append] at this
  exact this
/-- what Limits makes is valid, and its bounds are low -/
theorem lim_valid (l : List Int) : valid (limTop l) (limRows l) = true := by
  obtain ⟨n1, n2, n3⟩ := limN_bd l
  have hl := limTop_len l
  have hr := limRows_len l
  refine valid_iff.2 ⟨by omega, by omega, by omega, (lim_tame l).2, fun r hr => ?_⟩
  obtain ⟨i, _, rfl⟩ := List.mem_map.1 hr
  have b0 := nxt_bd (l := l) (j := 2 + limN l + 4 * i) (m := (limN l : Int) - 1) (by omega)
  have b1 := nxt_bd (l := l) (j := 2 + limN l + 4 * i + 1) (m := 7) (by omega)
  have b2 := nxt_bd (l := l) (j := 2 + limN l + 4 * i + 2) (m := 7) (by omega)
  have b3 := nxt_bd (l := l) (j := 2 + limN l + 4 * i + 3) (m := 41) (by omega)
  rw [hl]
  unfold limRow
  simp only
  split
  · refine ⟨⟨b0.1, by simp only; omega, bounded_iff.2 (by simp only; omega)⟩, by omega⟩
  · refine ⟨⟨b0.1, by simp only; omega, bounded_iff.2 (by simp only; omega)⟩, by omega⟩
theorem sum_le {x : List Int} {m : Int} (h : ∀ v ∈ x, v ≤ m) : x.sum ≤ m * x.length := by
  induction x with
  | nil => simp
  | cons a x ih =>
    have := ih fun v hv => h v (by simp [hv])
    have := h a (by simp)
    simp only [List.sum_cons, List.length_cons]
    rw [show ((x.length + 1 : Nat) : Int) = (x.length : Int) + 1 by omega, Int.mul_add]
    omega
theorem lim_sum (l : List Int) : (limTop l).sum < 16384 := by
  obtain ⟨n1, n2, n3⟩ := limN_bd l
  have hl := limTop_len l
  have := sum_le (x := limTop l) (m := 29) fun v hv => by
    obtain ⟨i, _, rfl⟩ := List.mem_map.1 hv
    have := nxt_bd (l := l) (j := 1 + i) (m := 30) (by omega)
    omega
  rw [hl] at this
  omega
theorem lim_best (l : List Int) : Best (limTop l) (limRows l) (great (limTop l) (limRows l)) := great_best (lim_valid l) (lim_sum l)
/-- lowered bounds -/
theorem lv_range {n : Nat} {f : Nat → Int} {i : Nat} (h : i < n) : lv ((List.range n).map f) i = f i := by
  simp [lv, List.getD_eq_getElem?_getD, h]
theorem lowered_len (top : List Int) (rows : List Row) (l : List Int) : (lowered top rows l).length ≤ top.length := by
  unfold lowered
  have h1 := great_len (lowT top l) rows
  have h2 : (lowT top l).length = top.length := by unfold lowT; rw [lowTo_len, levels_len]
  split <;> omega
end Go.Proofs.Ytejjkajknmhplaa
