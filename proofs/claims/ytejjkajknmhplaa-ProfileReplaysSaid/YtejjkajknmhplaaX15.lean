import Derived.Test.YtejjkajknmhplaaX14
namespace Go.Proofs.Ytejjkajknmhplaa
open Eng
set_option maxRecDepth 10000
attribute [local irreducible] FnOk loopW idxF retX

def lvlAt (top l : List Int) (i : Nat) : Int := max 0 (lv top i - nxt l (2 * i) 9 + (nxt l (2 * i + 1) 8).tdiv 7)
def levels (top l : List Int) : List Int := (List.range top.length).map (lvlAt top l)
/-- bounds as Limits makes them -/
def tame (top : List Int) : Prop := top.length ≤ 64 ∧ ∀ v ∈ top, 0 ≤ v ∧ v ≤ 4096
theorem tame.lv {top : List Int} (h : tame top) (i : Int) : 0 ≤ lv top i ∧ lv top i ≤ 4096 := xok.lv (n := top.length) ⟨rfl, h.2⟩ i
theorem f21_ok (top l : List Int) (ht : tame top) (hl : l.length ≤ 4611686018427387904) : FnOk Try.prog 21 [Li top, Li l] [] 0 (.one (.row 0)) [(0, .rows 2 1 ((levels top l).map encI))] 1 := by
  refine fnOk tab mix Try.func21 rfl rfl (by kernel_rfl) rfl rfl ?_
  have htl := ht.1
  (conv => whnf)
  refine call_i (f36_j l) ?_
  (conv => whnf)
  refine loop_intro (fun i : Nat => ⟨[(0, Li top), (5, .one (.vptr 0 0)), (6, .one (.row 1)), (7, I i)], [(0, SrcJ l (2 * i)), (1, .rows 2 1 (((List.range i).map (lvlAt top l)).map encI))], 2⟩) (fun i => i ≤ top.length) (fun i => top.length - i) [.own 6 2 1] 0 [] (Nat.zero_le _) ⟨⟨rfl, rfl, rfl, rfl, trivial⟩, ⟨rfl, rfl, trivial⟩⟩ ?_
  rintro i hi
  (conv => whnf)
  refine ask_m (fun h => ?_) (fun h => ?_)
  · have hlt : i < top.length := by simpa using h
    have hkk : IntKind.i64.wrap ((i : Int) + 1) = ((i + 1 : Nat) : Int) := by rw [w64] <;> omega
    have hx := lv_some (x := top) (i := (i : Int)) (by simpa using hlt)
    have b0 := ht.lv i
    have b1 := nxt_bd (l := l) (j := 2 * i) (m := 9) (by omega)
    have b2 := nxt_bd (l := l) (j := 2 * i + 1) (m := 8) (by omega)
    have b3 := tdiv_bd (a := nxt l (2 * i + 1) 8) (b := 7) (by omega) (by omega)
    have w1 : IntKind.i64.wrap (lv top i - nxt l (2 * i) 9) = lv top i - nxt l (2 * i) 9 := by rw [w64] <;> omega
    have w2 : IntKind.i64.wrap ((nxt l (2 * i + 1) 8).tdiv 7) = (nxt l (2 * i + 1) 8).tdiv 7 := by rw [w64] <;> omega
    have w3 : IntKind.i64.wrap (lv top i - nxt l (2 * i) 9 + (nxt l (2 * i + 1) 8).tdiv 7) = lv top i - nxt l (2 * i) 9 + (nxt l (2 * i + 1) 8).tdiv 7 := by rw [w64] <;> omega
    (conv => whnf)
    refine idx_and (by omega) hx ?_
    (conv => whnf)
    refine call_i (f37_j l (2 * i) 9 (by omega) (by omega) hl) ?_
    (conv => whnf)
    refine call_i (f37_j l (2 * i + 1) 8 (by omega) (by omega) hl) ?_
    (conv => whnf)
    refine ⟨by decide, ?_⟩
    (conv => whnf)
    rw [w1, w2, w3]
    refine ⟨⟨by simp; omega, by simp; omega⟩, ?_⟩
    (conv => whnf)
    refine ⟨i + 1, [(0, 0), (1, 3)], hlt, by omega, ⟨⟨rfl, rfl, rfl, eqI hkk, trivial⟩, ⟨by rw [show 2 * (i + 1) = 2 * i + 1 + 1 by omega]; rfl, ?_, trivial⟩⟩⟩
    rw [range_enc]; rfl
  · have hi : i = top.length := by simp at h; omega
    subst hi
    (conv => whnf)
    refine ret0 ?_
    exact ⟨[(0, 1)], ⟨rfl, trivial⟩, ⟨rfl, trivial⟩⟩

def lowTo (top y : List Int) (k : Nat) : List Int := (List.range y.length).map fun i => if i < k then min (lv y i) (lv top i) else lv y i
theorem lowTo_zero (top y : List Int) : lowTo top y 0 = y := by
  apply List.ext_getElem?
  intro i
  by_cases h : i < y.length
  · simp [lowTo, h, lv, List.getD_eq_getElem?_getD]
  · simp [lowTo, h, List.getElem?_eq_none (show y.length ≤ i by omega)]
theorem lowTo_len (top y : List Int) (k : Nat) : (lowTo top y k).length = y.length := by simp [lowTo]
theorem lowTo_at {top y : List Int} {k : Nat} (h : k < y.length) : (lowTo top y k)[k]? = some (lv y k) := by
  simp [lowTo, h]
theorem lowTo_succ {top y : List Int} {k : Nat} : (lowTo top y k).set k (min (lv y k) (lv top k)) = lowTo top y (k + 1) := by
  apply List.ext_getElem?
  intro i
  rw [List.getElem?_set]
  by_cases e : k = i
  · subst e
    by_cases h : k < y.length
    · simp [lowTo, h]
    · simp [lowTo, h]
  · rw [if_neg e]
    by_cases h : i < y.length
    · have : (i < k) = (i < k + 1) := by apply propext; omega
      simp [lowTo, h, this]
    · simp [lowTo, h]
def lowT (top l : List Int) : List Int := lowTo top (levels top l) top.length
def lowered (top : List Int) (rows : List Row) (l : List Int) : List Int := if (great (lowT top l) rows).2.2 then (great (lowT top l) rows).1 else lowT top l
theorem levels_len (top l : List Int) : (levels top l).length = top.length := by simp [levels]
theorem f17_ok (top : List Int) (rows : List Row) (l : List Int) (ht : tame top) (hr : rows.length ≤ 4611686018427387904) (hl : l.length ≤ 4611686018427387904) : FnOk Try.prog 17 [Li top, Lr rows, Li l] [] 0 (.one (.row 0)) [(0, .rows 2 1 ((lowered top rows l).map encI))] 1 := by
  refine fnOk tab mix Try.func17 rfl rfl (by kernel_rfl) rfl rfl ?_
  have htl := ht.1
  have hyl := levels_len top l
  (conv => whnf)
  refine call_i (f21_ok top l ht hl) ?_
  (conv => whnf)
  refine loop_intro (fun i : Nat => ⟨[(0, Li top), (1, Lr rows), (7, .one (.row 0)), (8, I i)], [(0, .rows 2 1 ((lowTo top (levels top l) i).map encI))], 1⟩) (fun i => i ≤ top.length) (fun i => top.length - i) [] 0 [] (Nat.zero_le _) ⟨⟨rfl, rfl, rfl, rfl, trivial⟩, ⟨by rw [lowTo_zero]; rfl, trivial⟩⟩ ?_
  rintro i hi
  have hll := lowTo_len top (levels top l) i
  (conv => whnf)
  refine ask_m (fun h => ?_) (fun h => ?_)
  · have hlt : i < top.length := by have h := of_decide_eq_true h; simp only [List.length_map] at h; omega
    have hkk : IntKind.i64.wrap ((i : Int) + 1) = ((i + 1 : Nat) : Int) := by rw [w64] <;> omega
    have hx := lv_some (x := top) (i := (i : Int)) (by simpa using hlt)
    have hy := lowTo_at (top := top) (y := levels top l) (k := i) (by omega)
    (conv => whnf)
    refine ⟨⟨by omega, by simp only [List.length_map]; omega⟩, ?_⟩
    (conv => whnf)
    refine idx_map (by simpa using hy) ?_
    (conv => whnf)
    refine idx_and (by omega) hx ?_
    (conv => whnf)
    refine ⟨⟨by omega, by simp only [List.length_map]; omega⟩, ?_⟩
    (conv => whnf)
    refine idx_map (by simpa using hy) ?_
    (conv => whnf)
    refine ⟨i + 1, [], hlt, by omega, ⟨⟨rfl, rfl, rfl, eqI hkk, trivial⟩, ⟨?_, trivial⟩⟩⟩
    rw [← lowTo_succ, ← set_enc]; rfl
  · have hi : i = top.length := by have h := of_decide_eq_false h; simp only [List.length_map] at h; omega
    subst hi
    (conv => whnf)
    refine call_i (f29_ok (lowT top l) rows hr (by unfold lowT; omega)) ?_
    (conv => whnf)
    refine ⟨⟨flatG3 _, flatI _ _, flatI _ _, trivial⟩, ?_⟩
    (conv => whnf)
    refine ask_m (fun h => ?_) (fun h => ?_)
    · (conv => whnf)
      refine ret0 ?_
      have : lowered top rows l = (great (lowT top l) rows).1 := by rw [lowered, if_pos h]
      rw [this]
      exact ⟨[(0, 1)], ⟨rfl, trivial⟩, ⟨rfl, trivial⟩⟩
    · (conv => whnf)
      refine ret0 ?_
      have : lowered top rows l = lowT top l := by rw [lowered, if_neg (by rw [h]; simp)]
      rw [this]
      exact ⟨[(0, 0)], ⟨rfl, trivial⟩, ⟨rfl, trivial⟩⟩

def split (r : Row) : List Row × Bool :=
  if bounded r ∧ -1073741824 ≤ r.a + r.b ∧ r.a + r.b ≤ 1073741824 then
    if 0 < r.a ∧ 0 < r.b then ([⟨r.cell, r.a + r.b, 0, r.c⟩, ⟨r.cell, 0, r.a + r.b, r.c⟩], true) else ([r], true)
  else ([], false)
abbrev S2 (ok : Bool) : SV := .tup [(false, [.row 0]), (false, [.dv (.bool ok)])]
abbrev SM (l : List Row) : List (Nat × Box) := [(0, .rows 25 4 (l.map encR))]
theorem add_bd {r : Row} (h : bounded r = true) : IntKind.i64.wrap (r.a + r.b) = r.a + r.b := by
  obtain ⟨b1, b2, b3⟩ := bounded_iff.1 h
  rw [w64] <;> omega
theorem f28_ok (r : Row) : FnOk Try.prog 28 [Rw r] [] 0 (S2 (split r).2) (SM (split r).1) 1 := by
  refine fnOk tab mix Try.func28 rfl rfl (by kernel_rfl) rfl rfl ?_
  (conv => whnf)
  refine call_i (f48_ok r) ?_
  (conv => whnf)
  refine ask_m (fun h => ?_) (fun h => ?_)
  · have : split r = ([], false) := by simp at h; simp [split, h]
    rw [this]
    (conv => whnf)
    refine retO [.own 2 25 4] ?_
    exact ⟨[(0, 1)], ⟨rfl, trivial⟩, ⟨rfl, trivial⟩⟩
  have hb : bounded r = true := by simpa using h
  have hw := add_bd hb
  (conv => whnf)
  rw [hw]
  refine call_i (f49_ok (r.a + r.b) 1073741824 (by decide) (by decide)) ?_
  (conv => whnf)
  refine ask_m (fun h => ?_) (fun h => ?_)
  · have : split r = ([], false) := by simp [within] at h; rw [split, if_neg]; rintro ⟨_, h1, h2⟩; omega
    rw [this]
    (conv => whnf)
    refine retO [.own 2 25 4] ?_
    exact ⟨[(0, 1)], ⟨rfl, trivial⟩, ⟨rfl, trivial⟩⟩
  have hs : -1073741824 ≤ r.a + r.b ∧ r.a + r.b ≤ 1073741824 := by simp [within] at h; omega
  have hsp : split r = if 0 < r.a ∧ 0 < r.b then ([⟨r.cell, r.a + r.b, 0, r.c⟩, ⟨r.cell, 0, r.a + r.b, r.c⟩], true) else ([r], true) := by rw [split, if_pos ⟨hb, hs⟩]
  rw [hsp]
  (conv => whnf)
  refine ask_m (fun ha => ?_) (fun ha => ?_)
  · have ha := of_decide_eq_true ha
    (conv => whnf)
    refine ask_m (fun hb => ?_) (fun hb => ?_)
    · have hb := of_decide_eq_true hb
      rw [if_pos ⟨ha, hb⟩]
      (conv => whnf)
      rw [hw]
      refine ret0 ?_
      exact ⟨[(0, 1)], ⟨rfl, trivial⟩, ⟨rfl, trivial⟩⟩
    · have hb := of_decide_eq_false hb
      rw [if_neg (fun h => hb h.2)]
      (conv => whnf)
      refine ret0 ?_
      exact ⟨[(0, 1)], ⟨rfl, trivial⟩, ⟨rfl, trivial⟩⟩
  · have ha := of_decide_eq_false ha
    rw [if_neg (fun h => ha h.1)]
    (conv => whnf)
    refine ret0 ?_
    exact ⟨[(0, 1)], ⟨rfl, trivial⟩, ⟨rfl, trivial⟩⟩
theorem f46_ok (r : Row) : FnOk Try.prog 46 [Rw r] [] 0 (S2 (split r).2) (SM (split r).1) 1 := by
  refine fnOk tab mix Try.func46 rfl rfl (by kernel_rfl) rfl rfl ?_
  (conv => whnf)
  refine call_i (f57_ok r) ?_
  (conv => whnf)
  refine ask_m (fun h => ?_) (fun h => ?_)
  · have : split r = ([], false) := by simp at h; simp [split, h]
    rw [this]
    (conv => whnf)
    refine retO [.own 2 25 4] ?_
    exact ⟨[(0, 1)], ⟨rfl, trivial⟩, ⟨rfl, trivial⟩⟩
  have hb : bounded r = true := by simpa using h
  have hw := add_bd hb
  (conv => whnf)
  rw [hw]
  refine ask_m (fun h => ?_) (fun h => ?_)
  · have : split r = ([], false) := by simp at h; rw [split, if_neg]; rintro ⟨_, h1, h2⟩; omega
    rw [this]
    (conv => whnf)
    refine retO [.own 2 25 4] ?_
    exact ⟨[(0, 1)], ⟨rfl, trivial⟩, ⟨rfl, trivial⟩⟩
  have hs1 := of_decide_eq_false h
  (conv => whnf)
  rw [hw]
  refine ask_m (fun h => ?_) (fun h => ?_)
  · have : split r = ([], false) := by simp at h; rw [split, if_neg]; rintro ⟨_, h1, h2⟩; omega
    rw [this]
    (conv => whnf)
    refine retO [.own 2 25 4] ?_
    exact ⟨[(0, 1)], ⟨rfl, trivial⟩, ⟨rfl, trivial⟩⟩
  have hs : -1073741824 ≤ r.a + r.b ∧ r.a + r.b ≤ 1073741824 := by have := of_decide_eq_false h; omega
  have hsp : split r = if 0 < r.a ∧ 0 < r.b then ([⟨r.cell, r.a + r.b, 0, r.c⟩, ⟨r.cell, 0, r.a + r.b, r.c⟩], true) else ([r], true) := by rw [split, if_pos ⟨hb, hs⟩]
  rw [hsp]
  (conv => whnf)
  refine ask_m (fun ha => ?_) (fun ha => ?_)
  · have ha := of_decide_eq_true ha
    (conv => whnf)
    refine ask_m (fun hb => ?_) (fun hb => ?_)
    · have hb := of_decide_eq_true hb
      rw [if_pos ⟨ha, hb⟩]
      (conv => whnf)
      rw [hw]
      refine ret0 ?_
      exact ⟨[(0, 1)], ⟨rfl, trivial⟩, ⟨rfl, trivial⟩⟩
    · have hb := of_decide_eq_false hb
      rw [if_neg (fun h => hb h.2)]
      (conv => whnf)
      refine ret0 ?_
      exact ⟨[(0, 1)], ⟨rfl, trivial⟩, ⟨rfl, trivial⟩⟩
  · have ha := of_decide_eq_false ha
    rw [if_neg (fun h => ha h.1)]
    (conv => whnf)
    refine ret0 ?_
    exact ⟨[(0, 1)], ⟨rfl, trivial⟩, ⟨rfl, trivial⟩⟩
theorem split_len (r : Row) : (split r).1.length ≤ 2 := by
  unfold split; split
  · split <;> simp
  · simp
theorem f25_ok (r : Row) : FnOk Try.prog 25 [Rw r] [] 0 (Bo true) [] 0 := by
  refine fnOk tab mix Try.func25 rfl rfl (by kernel_rfl) rfl rfl ?_
  have := split_len r
  (conv => whnf)
  refine call_i (f28_ok r) ?_
  (conv => whnf)
  refine call_i (f46_ok r) ?_
  (conv => whnf)
  refine ask_mt (by simp) ?_
  (conv => whnf)
  refine call_i (f47_ok _ _ (by omega)) ?_
  (conv => whnf)
  refine ⟨⟨trivial, trivial⟩, ?_⟩
  (conv => whnf)
  refine ret0 ?_
  exact ret_b (by simp) rfl
theorem replay_len (top : List Int) (rows : List Row) (s : List Int) : (replay top rows s).1.length ≤ 65 := by
  rcases h : (replay top rows s).2 with _ | _
  · unfold replay at h ⊢
    split at h
    · rename_i hv
      rw [if_pos hv]
      split at h
      · cases h
      · simp
    · rename_i hv; rw [if_neg hv]; simp
  · obtain ⟨hv, _, _, hx⟩ := replay_ok h
    have := (valid_iff.1 hv).2.1
    have := hx.1
    omega
theorem f31_ok (top : List Int) (rows : List Row) (x s : List Int) (hr : rows.length ≤ 4611686018427387904) (hx : x.length ≤ 4611686018427387904) : FnOk Try.prog 31 [Li top, Lr rows, Li x, Li s] [] 0 (Bo true) [] 0 := by
  refine fnOk tab mix Try.func31 rfl rfl (by kernel_rfl) rfl rfl ?_
  have hlen := replay_len top rows s
  (conv => whnf)
  refine call_i (f35_ok top rows s hr) ?_
  (conv => whnf)
  refine call_i (f51_ok top rows s hr) ?_
  (conv => whnf)
  refine ask_mt (by simp) ?_
  (conv => whnf)
  refine call_i (f34_ok _ _ (by omega)) ?_
  (conv => whnf)
  refine ⟨⟨trivial, trivial⟩, ?_⟩
  (conv => whnf)
  refine ask_mt (by simp) ?_
  (conv => whnf)
  refine call_i (f33_ok top rows x s hr hx) ?_
  (conv => whnf)
  refine call_i (f52_ok top rows x s hr hx) ?_
  (conv => whnf)
  refine ask_mt (by simp) ?_
  (conv => whnf)
  refine call_i (f32_ok top rows s hr) ?_
  (conv => whnf)
  refine call_i (f53_ok top rows s hr) ?_
  (conv => whnf)
  refine ret0 ?_
  exact ret_b (by simp) rfl
end Go.Proofs.Ytejjkajknmhplaa
