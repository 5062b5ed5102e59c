import Derived.Test.YtejjkajknmhplaaX7
namespace Go.Proofs.Ytejjkajknmhplaa
open Eng
set_option maxRecDepth 10000
attribute [local irreducible] FnOk loopW idxF retX

/-- the level that a row lowers, and to what -/
def hit (r : Row) (x : List Int) : Option (Int × Int) := if sat r x then none else if (bnd r x).2.2 then some ((bnd r x).1, (bnd r x).2.1) else none
inductive PR where
  | over
  | neg (s : List Int)
  | go (x s : List Int) (ch : Bool)
def pass : List Row → Int → List Int → List Int → Bool → PR
  | [], _, x, s, ch => .go x s ch
  | r :: rs, i, x, s, ch => match hit r x with
    | none => pass rs (i + 1) x s ch
    | some (a, m) => if 16384 ≤ s.length then .over else if m < 0 then .neg (s ++ [i]) else pass rs (i + 1) (x.set a.toNat m) (s ++ [i]) true
def fin (rows : List Row) (x s : List Int) : List Int × List Int × Bool := if rows.all (sat · x) then (x, s, true) else ([], s, false)
def outer (rows : List Row) : Nat → List Int → List Int → List Int × List Int × Bool
  | 0, _, _ => ([], [], false)
  | n + 1, x, s => match pass rows 0 x s false with
    | .over => ([], [], false)
    | .neg s' => ([], s', false)
    | .go x' s' true => outer rows n x' s'
    | .go x' s' false => fin rows x' s'
def great (top : List Int) (rows : List Row) : List Int × List Int × Bool := if valid top rows then outer rows 16386 top [] else ([], [], false)

/-- levels as Greatest keeps them -/
def xok (n : Nat) (x : List Int) : Prop := x.length = n ∧ ∀ v ∈ x, 0 ≤ v ∧ v ≤ 4096
theorem xok.mild {n : Nat} {x : List Int} (h : xok n x) : mild x := fun v hv => by have := h.2 v hv; omega
theorem xok.lv {n : Nat} {x : List Int} (h : xok n x) (i : Int) : 0 ≤ lv x i ∧ lv x i ≤ 4096 := by
  unfold Ytejjkajknmhplaa.lv; rw [List.getD_eq_getElem?_getD]
  cases hx : x[i.toNat]? with
  | none => simp
  | some v => simpa using h.2 v (List.mem_of_getElem? hx)
theorem xok.set {n : Nat} {x : List Int} (h : xok n x) {i : Nat} {m : Int} (h0 : 0 ≤ m) (h1 : m ≤ 4096) : xok n (x.set i m) :=
  ⟨by simp [h.1], fun v hv => by rcases List.mem_or_eq_of_mem_set hv with hv | rfl
                                 · exact h.2 v hv
                                 · exact ⟨h0, h1⟩⟩
theorem hit_some {r : Row} {x : List Int} {a m : Int} (hr : rowIn r x.length) (h : hit r x = some (a, m)) : 0 ≤ a ∧ a < x.length ∧ m < lv x a := by
  unfold hit at h
  split at h
  · cases h
  · rename_i hs
    simp only [sat, decide_eq_true_eq, Int.not_le] at hs
    split at h
    · rename_i hb
      simp only [Option.some.injEq, Prod.mk.injEq] at h
      obtain ⟨rfl, rfl⟩ := h
      obtain ⟨h0, h1, _⟩ := hr
      unfold bnd at hb ⊢
      split
      · rename_i hc
        refine ⟨h0, by simp only; omega, ?_⟩
        simp only
        apply Int.ediv_lt_of_lt_mul hc.1
        rw [Int.mul_comm (lv x r.cell)]; omega
      · rename_i hc
        rw [if_neg hc] at hb
        split
        · rename_i hc2
          refine ⟨by simp only; omega, by simp only; omega, ?_⟩
          simp only
          apply Int.ediv_lt_of_lt_mul hc2.1
          rw [Int.mul_comm (lv x (r.cell + 1))]; omega
        · rename_i hc2; rw [if_neg hc2] at hb; cases hb
    · cases h

abbrev G3 (ok : Bool) : SV := .tup [(false, [.row 0]), (false, [.row 1]), (false, [.dv (.bool ok)])]
abbrev GM (g : List Int × List Int × Bool) : List (Nat × Box) := [(0, .rows 2 1 (g.1.map encI)), (1, .rows 3 1 (g.2.1.map encI))]
theorem set_enc {x : List Int} {i : Nat} {m : Int} : (x.map encI).set i [.int .i64 m] = (x.set i m).map encI := by
  rw [List.map_set]; rfl
theorem drop_cons {α : Type} {l : List α} {k : Nat} {x : α} (h : l[k]? = some x) : l.drop k = x :: l.drop (k + 1) := by
  obtain ⟨h1, h2⟩ := List.getElem?_eq_some_iff.1 h
  rw [List.drop_eq_getElem_cons h1, h2]
theorem flatT3 (p : Int × Int × Bool) : FlatS (T3 p) := by
  intro t ht c hc
  simp at ht
  rcases ht with rfl | rfl | rfl <;> simp at hc <;> subst hc <;> trivial
theorem f19_ok (top : List Int) (rows : List Row) (hr : rows.length ≤ 4611686018427387904) (ht : top.length ≤ 17592186044416) : FnOk Try.prog 19 [Li top, Lr rows] [] 0 (G3 (great top rows).2.2) (GM (great top rows)) 2 := by
  refine fnOk tab mix Try.func19 rfl rfl (by kernel_rfl) rfl rfl ?_
  (conv => whnf)
  refine call_i (f40_ok top rows hr) ?_
  (conv => whnf)
  refine ask_m (fun h => ?_) (fun h => ?_)
  · (conv => whnf)
    refine retO [.own 4 2 1, .own 5 3 1] ?_
    have : great top rows = ([], [], false) := by simp at h; simp [great, h]
    rw [this]
    exact ⟨[], ⟨rfl, trivial⟩, ⟨rfl, rfl, trivial⟩⟩
  have hv : valid top rows = true := by simpa using h
  obtain ⟨v1, v2, v3, v4, v5⟩ := valid_iff.1 hv
  (conv => whnf)
  refine call_i (f42_ok top (by omega)) ?_
  (conv => whnf)
  refine loop_intro (fun p : Nat × List Int × List Int × Bool => ⟨[(1, Lr rows), (7, .one (.row 0)), (8, .one (.row 1)), (9, Bo p.2.2.2)], [(0, .rows 2 1 (p.2.1.map encI)), (1, .rows 3 1 (p.2.2.1.map encI))], 2⟩)
    (fun p => xok top.length p.2.1 ∧ p.2.2.1.length ≤ 16384 ∧ (p.2.2.2 = true → 16386 ≤ p.1 + p.2.2.1.length ∧ outer rows p.1 p.2.1 p.2.2.1 = great top rows) ∧ (p.2.2.2 = false → fin rows p.2.1 p.2.2.1 = great top rows))
    (fun p => bif p.2.2.2 then p.1 + 1 else 0) [.own 8 3 1] (16386, top, [], true) [] ?_ ⟨⟨rfl, rfl, rfl, rfl, trivial⟩, ⟨rfl, rfl, trivial⟩⟩ ?_
  · exact ⟨⟨rfl, v4⟩, by simp, fun _ => ⟨by simp, by simp [great, hv]⟩, fun h => by cases h⟩
  rintro ⟨n, x0, s0, ch0⟩ ⟨hx0, hs0, hch, hnch⟩
  simp only at hx0 hs0 hch hnch
  (conv => whnf)
  refine ask_m (fun h => ?_) (fun h => ?_)
  · subst h
    obtain ⟨hn, ho⟩ := hch rfl
    clear hch hnch
    obtain ⟨n, rfl⟩ : ∃ k, n = k + 1 := ⟨n - 1, by omega⟩
    (conv => whnf)
    refine loop_intro (fun p : Nat × List Int × List Int × Bool => ⟨[(1, Lr rows), (7, .one (.row 0)), (8, .one (.row 1)), (9, Bo p.2.2.2), (23, I rows.length), (24, I p.1)], [(0, .rows 2 1 (p.2.1.map encI)), (1, .rows 3 1 (p.2.2.1.map encI))], 2⟩)
      (fun p => p.1 ≤ rows.length ∧ xok top.length p.2.1 ∧ p.2.2.1.length ≤ 16384 ∧ (s0.length ≤ p.2.2.1.length ∧ (p.2.2.2 = true → s0.length < p.2.2.1.length)) ∧ pass (rows.drop p.1) p.1 p.2.1 p.2.2.1 p.2.2.2 = pass rows 0 x0 s0 false)
      (fun p => rows.length - p.1) [] (0, x0, s0, false) [] ?_ ⟨⟨rfl, rfl, rfl, rfl, eqI (by simp), rfl, trivial⟩, ⟨rfl, rfl, trivial⟩⟩ ?_
    · exact ⟨Nat.zero_le _, hx0, hs0, ⟨Nat.le_refl _, fun h => by cases h⟩, rfl⟩
    rintro ⟨k, x, s, ch⟩ ⟨hk, hx, hs, hc, hp⟩
    simp only at hk hx hs hc hp
    (conv => whnf)
    refine ask_m (fun h => ?_) (fun h => ?_)
    · have hlt : k < rows.length := by simpa using h
      obtain ⟨r, hrk⟩ : ∃ r, rows[k]? = some r := ⟨_, List.getElem?_eq_getElem hlt⟩
      obtain ⟨hri, _⟩ := v5 r (List.mem_of_getElem? hrk)
      have hri' : rowIn r x.length := hx.1 ▸ hri
      have hkk : IntKind.i64.wrap ((k : Int) + 1) = ((k + 1 : Nat) : Int) := by rw [w64] <;> omega
      rw [drop_cons hrk] at hp
      (conv => whnf)
      refine idx_and (by omega) (by simpa using hrk) ?_
      (conv => whnf)
      have hxl := hx.1
      refine call_i (f41_sat r x hri' hx.mild (by omega)) ?_
      (conv => whnf)
      refine ⟨⟨trivial, trivial⟩, ?_⟩
      (conv => whnf)
      refine ask_m (fun h => ?_) (fun h => ?_)
      · (conv => whnf)
        have hh : hit r x = none := by simp [hit, h]
        simp only [pass, hh] at hp
        exact ⟨(k + 1, x, s, ch), [], ⟨hlt, hx, hs, hc, by simpa using hp⟩, by simp only; omega, ⟨⟨rfl, rfl, rfl, rfl, rfl, eqI hkk, trivial⟩, ⟨rfl, rfl, trivial⟩⟩⟩
      · (conv => whnf)
        refine idx_and (by omega) (by simpa using hrk) ?_
        (conv => whnf)
        refine call_i (f43_ok r x hri' hx.mild (by omega)) ?_
        (conv => whnf)
        refine ⟨⟨flatT3 _, trivial⟩, ?_⟩
        (conv => whnf)
        refine ask_m (fun hb => ?_) (fun hb => ?_)
        · (conv => whnf)
          have hh : hit r x = none := by simp [hit, h]; simpa using hb
          simp only [pass, hh] at hp
          exact ⟨(k + 1, x, s, ch), [], ⟨hlt, hx, hs, hc, by simpa using hp⟩, by simp only; omega, ⟨⟨rfl, rfl, rfl, rfl, rfl, eqI hkk, trivial⟩, ⟨rfl, rfl, trivial⟩⟩⟩
        · have hh : hit r x = some ((bnd r x).1, (bnd r x).2.1) := by
            have : (bnd r x).2.2 = true := by simpa using hb
            simp [hit, h, this]
          obtain ⟨g1, g2, g3⟩ := hit_some hri' hh
          have g4 := hx.lv (bnd r x).1
          simp only [pass, hh] at hp
          (conv => whnf)
          refine ask_m (fun hov => ?_) (fun hov => ?_)
          · (conv => whnf)
            refine retO [.own 4 2 1, .own 5 3 1] ?_
            have hov : 16384 ≤ s.length := by simp at hov; omega
            rw [if_pos hov] at hp
            have : great top rows = ([], [], false) := by rw [← ho]; simp only [outer, ← hp]
            rw [this]
            exact ⟨[(0, 2), (1, 3)], ⟨rfl, trivial⟩, ⟨rfl, rfl, trivial⟩⟩
          · have hov : ¬ 16384 ≤ s.length := by simp at hov; omega
            rw [if_neg hov] at hp
            (conv => whnf)
            refine ⟨⟨g1, by simpa using g2⟩, idx_map (lv_some (x := x) (i := (bnd r x).1) (by omega)) ?_⟩
            (conv => whnf)
            refine ⟨⟨by simp; omega, by simp; omega⟩, ?_⟩
            (conv => whnf)
            refine ask_m (fun hneg => ?_) (fun hneg => ?_)
            · have hneg : (bnd r x).2.1 < 0 := by simpa using hneg
              rw [if_pos hneg] at hp
              (conv => whnf)
              refine retO [.own 4 2 1] ?_
              have : great top rows = ([], s ++ [(k : Int)], false) := by rw [← ho]; simp only [outer, ← hp]
              rw [this]
              refine ⟨[(0, 4), (1, 3)], ⟨rfl, trivial⟩, ⟨rfl, ?_, trivial⟩⟩
              simp only [List.map_append]; rfl
            · have hneg : ¬ (bnd r x).2.1 < 0 := by simpa using hneg
              rw [if_neg hneg] at hp
              (conv => whnf)
              refine ⟨(k + 1, x.set (bnd r x).1.toNat (bnd r x).2.1, s ++ [(k : Int)], true), [(0, 0), (1, 3)], ⟨hlt, hx.set (by omega) (by omega), by simp; omega, ⟨by have := hc.1; simp; omega, fun _ => by have := hc.1; simp; omega⟩, by simpa using hp⟩, by simp only; omega, ⟨⟨rfl, rfl, rfl, rfl, rfl, eqI hkk, trivial⟩, ⟨?_, ?_, trivial⟩⟩⟩
              · rw [← set_enc]; rfl
              · simp only [List.map_append]; rfl
    · have hk : k = rows.length := by simp at h; omega
      subst hk
      rw [List.drop_length] at hp
      simp only [pass] at hp
      simp only [outer, ← hp] at ho
      (conv => whnf)
      refine ⟨(n, x, s, ch), [], ⟨hx, hs, fun e => ?_, fun e => ?_⟩, ?_, ⟨⟨rfl, rfl, rfl, rfl, trivial⟩, ⟨rfl, rfl, trivial⟩⟩⟩
      · simp only at e; subst e
        have := hc.2 rfl
        exact ⟨by simp only; omega, ho⟩
      · simp only at e; subst e; exact ho
      · cases ch <;> simp
  · subst h
    have ho := hnch rfl
    (conv => whnf)
    refine loop_intro (fun k : Nat => ⟨[(1, Lr rows), (7, .one (.row 0)), (8, .one (.row 1)), (61, I rows.length), (62, I k)], [(0, .rows 2 1 (x0.map encI)), (1, .rows 3 1 (s0.map encI))], 2⟩)
      (fun k => k ≤ rows.length ∧ (rows.take k).all (sat · x0) = true) (fun k => rows.length - k) [] 0 [] ⟨Nat.zero_le _, rfl⟩ ⟨⟨rfl, rfl, rfl, eqI (by simp), rfl, trivial⟩, ⟨rfl, rfl, trivial⟩⟩ ?_
    rintro k ⟨hk, hall⟩
    (conv => whnf)
    refine ask_m (fun h => ?_) (fun h => ?_)
    · have hlt : k < rows.length := by simpa using h
      obtain ⟨r, hrk⟩ : ∃ r, rows[k]? = some r := ⟨_, List.getElem?_eq_getElem hlt⟩
      obtain ⟨hri, _⟩ := v5 r (List.mem_of_getElem? hrk)
      have hri' : rowIn r x0.length := hx0.1 ▸ hri
      have hkk : IntKind.i64.wrap ((k : Int) + 1) = ((k + 1 : Nat) : Int) := by rw [w64] <;> omega
      (conv => whnf)
      refine idx_and (by omega) (by simpa using hrk) ?_
      (conv => whnf)
      have hxl := hx0.1
      refine call_i (f41_sat r x0 hri' hx0.mild (by omega)) ?_
      (conv => whnf)
      refine ⟨⟨trivial, trivial⟩, ?_⟩
      (conv => whnf)
      refine ask_m (fun h => ?_) (fun h => ?_)
      · (conv => whnf)
        refine retO [.own 4 2 1] ?_
        have : great top rows = ([], s0, false) := by
          have hs : sat r x0 = false := by simpa using h
          rw [← ho, fin, if_neg]
          rw [all_not (f := (sat · x0)) hrk hs]; simp
        rw [this]
        exact ⟨[(0, 2), (1, 1)], ⟨rfl, trivial⟩, ⟨rfl, rfl, trivial⟩⟩
      · (conv => whnf)
        exact ⟨k + 1, [], ⟨hlt, all_take hall hrk (by simpa using h)⟩, by omega, ⟨⟨rfl, rfl, rfl, rfl, eqI hkk, trivial⟩, ⟨rfl, rfl, trivial⟩⟩⟩
    · have hk : k = rows.length := by simp at h; omega
      subst hk
      rw [List.take_length] at hall
      (conv => whnf)
      refine ret0 ?_
      have : great top rows = (x0, s0, true) := by rw [← ho, fin, if_pos hall]
      rw [this]
      exact ⟨[], ⟨rfl, trivial⟩, ⟨rfl, rfl, trivial⟩⟩
end Go.Proofs.Ytejjkajknmhplaa
