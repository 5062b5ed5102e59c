import Derived.Test.YtejjkajknmhplaaX8
namespace Go.Proofs.Ytejjkajknmhplaa
open Eng
set_option maxRecDepth 10000
attribute [local irreducible] FnOk loopW idxF retX

theorem mild_iff {x : List Int} : mild x ↔ x.all (fun v => decide (-1073741824 ≤ v) && decide (v ≤ 1073741824)) = true := by
  simp [mild]
theorem f50_ok (r : Row) (x : List Int) (hr : rowIn r x.length) (hm : mild x) (hl : x.length ≤ 4294967296) : FnOk Try.prog 50 [Rw r, Li x] [] 0 (T3 (bnd r x)) [] 0 := by
  refine fnOk tab mix Try.func50 rfl rfl (by kernel_rfl) rfl rfl ?_
  obtain ⟨h0, h1, hb⟩ := hr
  have hp := mild_lv hm r.cell
  have hq := mild_lv hm (r.cell + 1)
  obtain ⟨_, w1, w2⟩ := sat_wrap (x := x) hb hp hq
  obtain ⟨b1, b2, b3⟩ := bounded_iff.1 hb
  have m1 := mul_bd b1 hp
  have m2 := mul_bd b2 hq
  have w3 : IntKind.i64.wrap (r.cell + 1) = r.cell + 1 := by rw [w64] <;> omega
  have w4 : IntKind.i64.wrap (r.c - r.b * lv x (r.cell + 1)) = r.c - r.b * lv x (r.cell + 1) := by rw [w64] <;> omega
  have w5 : IntKind.i64.wrap (r.c - r.a * lv x r.cell) = r.c - r.a * lv x r.cell := by rw [w64] <;> omega
  have w6 : IntKind.i64.wrap (((x.map encI).length : Int) - 2) = (x.length : Int) - 2 := by rw [w64] <;> simp <;> omega
  (conv => whnf)
  refine call_i (f57_ok r) ?_
  (conv => whnf)
  refine ask_mf (by rw [hb]; rfl) ?_
  have hbad : (0 < r.a ∧ 0 < r.b) ∨ (¬ 0 < r.a ∧ ¬ 0 < r.b) → bnd r x = (0, 0, false) := fun h => by
    rw [bnd, if_neg (by omega), if_neg (by omega)]
  (conv => whnf)
  refine ask_m (fun h => ?_) (fun h => ?_)
  · (conv => whnf)
    refine ret0 ?_
    exact ret_T3 (hbad (by simp at h; omega)).symm rfl
  have hne : (0 < r.a ∧ ¬ 0 < r.b) ∨ (¬ 0 < r.a ∧ 0 < r.b) := by simp at h; omega
  (conv => whnf)
  refine ask_mf (by simp; omega) ?_
  (conv => whnf)
  rw [w6]
  refine ask_mf (by simp; omega) ?_
  (conv => whnf)
  refine loop_intro (fun k : Nat => ⟨[(1, Li x), (2, .one (.vptr 0 0)), (7, I k)], [(0, .vars 25 [.dv (.int .i64 r.cell), .dv (.int .i64 r.a), .dv (.int .i64 r.b), .dv (.int .i64 r.c)])], 1⟩) (fun k => k ≤ x.length) (fun k => x.length - k) [] 0 [] (Nat.zero_le _) ⟨⟨rfl, rfl, rfl, trivial⟩, ⟨rfl, trivial⟩⟩ ?_
  rintro k hk
  (conv => whnf)
  refine ask_m (fun h => ?_) (fun h => ?_)
  · have hlt : k < x.length := by simpa using h
    obtain ⟨v, hv⟩ : ∃ v, x[k]? = some v := ⟨_, List.getElem?_eq_getElem hlt⟩
    have hvm := hm v (List.mem_of_getElem? hv)
    have hkk : IntKind.i64.wrap ((k : Int) + 1) = ((k + 1 : Nat) : Int) := by rw [w64] <;> omega
    (conv => whnf)
    refine idx_and (by omega) (by simpa using hv) ?_
    (conv => whnf)
    refine ask_mf (by simp; omega) ?_
    (conv => whnf)
    refine idx_and (by omega) (by simpa using hv) ?_
    (conv => whnf)
    refine ask_mf (by simp; omega) ?_
    (conv => whnf)
    exact ⟨k + 1, [], hlt, by omega, ⟨⟨rfl, rfl, eqI hkk, trivial⟩, ⟨rfl, trivial⟩⟩⟩
  · (conv => whnf)
    refine ask_m (fun h => ?_) (fun h => ?_)
    · (conv => whnf)
      rw [w3]
      refine idx_and (by omega) (lv_some (by omega)) ?_
      (conv => whnf)
      rw [w2, w4]
      refine call_i (f58_ok _ _ (by simp_all) (by omega)) ?_
      (conv => whnf)
      refine ret0 ?_
      exact ret_T3 (by
        have h : 0 < r.a := by simpa using h
        rw [bnd, if_pos (by omega)]) rfl
    · have h : ¬ 0 < r.a := by simpa using h
      (conv => whnf)
      refine idx_and (by omega) (lv_some (by omega)) ?_
      (conv => whnf)
      rw [w1, w5, w3]
      refine call_i (f58_ok _ _ (by omega) (by omega)) ?_
      (conv => whnf)
      refine ret0 ?_
      exact ret_T3 (by rw [bnd, if_neg (by omega), if_pos (by omega)]) rfl

theorem sat_bnd {r : Row} {x : List Int} (ho : (bnd r x).2.2 = true) : sat r x = decide (lv x (bnd r x).1 ≤ (bnd r x).2.1) := by
  unfold sat
  apply decide_eq_decide.2
  unfold bnd at ho ⊢
  split
  · rename_i hc
    simp only
    rw [Int.le_ediv_iff_mul_le hc.1, Int.mul_comm]
    omega
  · rename_i hc
    rw [if_neg hc] at ho
    split
    · rename_i hc2
      simp only
      rw [Int.le_ediv_iff_mul_le hc2.1, Int.mul_comm (lv x (r.cell + 1))]
      omega
    · rename_i hc2; rw [if_neg hc2] at ho; cases ho
theorem bnd_at {r : Row} {x : List Int} (hr : rowIn r x.length) (ho : (bnd r x).2.2 = true) : 0 ≤ (bnd r x).1 ∧ (bnd r x).1 < x.length := by
  obtain ⟨h0, h1, _⟩ := hr
  unfold bnd at ho ⊢
  split
  · simp only; omega
  · rename_i hc; rw [if_neg hc] at ho
    split
    · simp only; omega
    · rename_i hc2; rw [if_neg hc2] at ho; cases ho
theorem f29_ok (top : List Int) (rows : List Row) (hr : rows.length ≤ 4611686018427387904) (ht : top.length ≤ 17592186044416) : FnOk Try.prog 29 [Li top, Lr rows] [] 0 (G3 (great top rows).2.2) (GM (great top rows)) 2 := by
  refine fnOk tab mix Try.func29 rfl rfl (by kernel_rfl) rfl rfl ?_
  (conv => whnf)
  refine call_i (f44_ok top rows hr) ?_
  (conv => whnf)
  refine ask_m (fun h => ?_) (fun h => ?_)
  · (conv => whnf)
    refine retO [.own 4 2 1, .own 5 3 1] ?_
    have : great top rows = ([], [], false) := by simp at h; simp [great, h]
    rw [this]
    exact ⟨[], ⟨rfl, trivial⟩, ⟨rfl, rfl, trivial⟩⟩
  have hv : valid top rows = true := by simpa using h
  obtain ⟨v1, v2, v3, v4, v5⟩ := valid_iff.1 hv
  (conv => whnf)
  refine ⟨⟨by simp; omega, by simp; omega⟩, ?_⟩
  (conv => whnf)
  refine loop_intro (fun p : Nat × List Int × List Int × Bool => ⟨[(1, Lr rows), (7, .one (.row 0)), (8, .one (.row 1)), (9, Bo p.2.2.2)], [(0, .rows 2 1 (p.2.1.map encI)), (1, .rows 3 1 (p.2.2.1.map encI))], 2⟩)
    (fun p => xok top.length p.2.1 ∧ p.2.2.1.length ≤ 16384 ∧ (p.2.2.2 = true → 16386 ≤ p.1 + p.2.2.1.length ∧ outer rows p.1 p.2.1 p.2.2.1 = great top rows) ∧ (p.2.2.2 = false → fin rows p.2.1 p.2.2.1 = great top rows))
    (fun p => bif p.2.2.2 then p.1 + 1 else 0) [.own 8 3 1] (16386, top, [], true) [] ?_ ⟨⟨rfl, rfl, rfl, rfl, trivial⟩, ⟨rfl, rfl, trivial⟩⟩ ?_
  · exact ⟨⟨rfl, v4⟩, by simp, fun _ => ⟨by simp, by simp [great, hv]⟩, fun h => by cases h⟩
  rintro ⟨n, x0, s0, ch0⟩ ⟨hx0, hs0, hch, hnch⟩
  simp only at hx0 hs0 hch hnch
  (conv => whnf)
  refine ask_m (fun h => ?_) (fun h => ?_)
  · subst h
    obtain ⟨hn, ho⟩ := hch rfl
    clear hch hnch
    obtain ⟨n, rfl⟩ : ∃ k, n = k + 1 := ⟨n - 1, by omega⟩
    (conv => whnf)
    refine loop_intro (fun p : Nat × List Int × List Int × Bool => ⟨[(1, Lr rows), (7, .one (.row 0)), (8, .one (.row 1)), (9, Bo p.2.2.2), (10, I p.1)], [(0, .rows 2 1 (p.2.1.map encI)), (1, .rows 3 1 (p.2.2.1.map encI))], 2⟩)
      (fun p => p.1 ≤ rows.length ∧ xok top.length p.2.1 ∧ p.2.2.1.length ≤ 16384 ∧ (s0.length ≤ p.2.2.1.length ∧ (p.2.2.2 = true → s0.length < p.2.2.1.length)) ∧ pass (rows.drop p.1) p.1 p.2.1 p.2.2.1 p.2.2.2 = pass rows 0 x0 s0 false)
      (fun p => rows.length - p.1) [] (0, x0, s0, false) [] ?_ ⟨⟨rfl, rfl, rfl, rfl, rfl, trivial⟩, ⟨rfl, rfl, trivial⟩⟩ ?_
    · exact ⟨Nat.zero_le _, hx0, hs0, ⟨Nat.le_refl _, fun h => by cases h⟩, rfl⟩
    rintro ⟨k, x, s, ch⟩ ⟨hk, hx, hs, hc, hp⟩
    simp only at hk hx hs hc hp
    (conv => whnf)
    refine ask_m (fun h => ?_) (fun h => ?_)
    · have hlt : k < rows.length := by simpa using h
      obtain ⟨r, hrk⟩ : ∃ r, rows[k]? = some r := ⟨_, List.getElem?_eq_getElem hlt⟩
      obtain ⟨hri, _⟩ := v5 r (List.mem_of_getElem? hrk)
      have hri' : rowIn r x.length := hx.1 ▸ hri
      have hkk : IntKind.i64.wrap ((k : Int) + 1) = ((k + 1 : Nat) : Int) := by rw [w64] <;> omega
      rw [drop_cons hrk] at hp
      (conv => whnf)
      refine idx_and (by omega) (by simpa using hrk) ?_
      (conv => whnf)
      have hxl := hx.1
      refine call_i (f50_ok r x hri' hx.mild (by omega)) ?_
      (conv => whnf)
      refine ⟨⟨flatT3 _, trivial⟩, ?_⟩
      (conv => whnf)
      refine ask_m (fun hb => ?_) (fun hb => ?_)
      · (conv => whnf)
        have hh : hit r x = none := by
          have : (bnd r x).2.2 = false := by simpa using hb
          simp [hit, this]
        simp only [pass, hh] at hp
        exact ⟨(k + 1, x, s, ch), [], ⟨hlt, hx, hs, hc, by simpa using hp⟩, by simp only; omega, ⟨⟨rfl, rfl, rfl, rfl, eqI hkk, trivial⟩, ⟨rfl, rfl, trivial⟩⟩⟩
      · have hok : (bnd r x).2.2 = true := by simpa using hb
        obtain ⟨a0, a1⟩ := bnd_at hri' hok
        (conv => whnf)
        refine ⟨⟨a0, by simpa using a1⟩, ?_⟩
        (conv => whnf)
        refine idx_map (lv_some (x := x) (i := (bnd r x).1) (by omega)) ?_
        (conv => whnf)
        refine ask_m (fun h => ?_) (fun h => ?_)
        · have h : lv x (bnd r x).1 ≤ (bnd r x).2.1 := by simpa using h
          (conv => whnf)
          have hh : hit r x = none := by rw [hit, sat_bnd hok, decide_eq_true h]; rfl
          simp only [pass, hh] at hp
          exact ⟨(k + 1, x, s, ch), [], ⟨hlt, hx, hs, hc, by simpa using hp⟩, by simp only; omega, ⟨⟨rfl, rfl, rfl, rfl, eqI hkk, trivial⟩, ⟨rfl, rfl, trivial⟩⟩⟩
        · have h : ¬ lv x (bnd r x).1 ≤ (bnd r x).2.1 := by simpa using h
          have hh : hit r x = some ((bnd r x).1, (bnd r x).2.1) := by rw [hit, sat_bnd hok, decide_eq_false h, hok]; rfl
          obtain ⟨g1, g2, g3⟩ := hit_some hri' hh
          have g4 := hx.lv (bnd r x).1
          simp only [pass, hh] at hp
          (conv => whnf)
          refine ask_m (fun hov => ?_) (fun hov => ?_)
          · (conv => whnf)
            refine retO [.own 4 2 1, .own 5 3 1] ?_
            have hov : 16384 ≤ s.length := by simp at hov; omega
            rw [if_pos hov] at hp
            have : great top rows = ([], [], false) := by rw [← ho]; simp only [outer, ← hp]
            rw [this]
            exact ⟨[(0, 2), (1, 3)], ⟨rfl, trivial⟩, ⟨rfl, rfl, trivial⟩⟩
          · have hov : ¬ 16384 ≤ s.length := by simp at hov; omega
            rw [if_neg hov] at hp
            (conv => whnf)
            refine ⟨⟨g1, by simpa using g2⟩, idx_map (lv_some (x := x) (i := (bnd r x).1) (by omega)) ?_⟩
            (conv => whnf)
            refine ⟨⟨by simp; omega, by simp; omega⟩, ?_⟩
            (conv => whnf)
            refine ask_m (fun hneg => ?_) (fun hneg => ?_)
            · have hneg : (bnd r x).2.1 < 0 := by simpa using hneg
              rw [if_pos hneg] at hp
              (conv => whnf)
              refine retO [.own 4 2 1] ?_
              have : great top rows = ([], s ++ [(k : Int)], false) := by rw [← ho]; simp only [outer, ← hp]
              rw [this]
              refine ⟨[(0, 4), (1, 3)], ⟨rfl, trivial⟩, ⟨rfl, ?_, trivial⟩⟩
              simp only [List.map_append]; rfl
            · have hneg : ¬ (bnd r x).2.1 < 0 := by simpa using hneg
              rw [if_neg hneg] at hp
              (conv => whnf)
              refine ⟨(k + 1, x.set (bnd r x).1.toNat (bnd r x).2.1, s ++ [(k : Int)], true), [(0, 0), (1, 3)], ⟨hlt, hx.set (by omega) (by omega), by simp; omega, ⟨by have := hc.1; simp; omega, fun _ => by have := hc.1; simp; omega⟩, by simpa using hp⟩, by simp only; omega, ⟨⟨rfl, rfl, rfl, rfl, eqI hkk, trivial⟩, ⟨?_, ?_, trivial⟩⟩⟩
              · rw [← set_enc]; rfl
              · simp only [List.map_append]; rfl
    · have hk : k = rows.length := by simp at h; omega
      subst hk
      rw [List.drop_length] at hp
      simp only [pass] at hp
      simp only [outer, ← hp] at ho
      (conv => whnf)
      refine ⟨(n, x, s, ch), [], ⟨hx, hs, fun e => ?_, fun e => ?_⟩, ?_, ⟨⟨rfl, rfl, rfl, rfl, trivial⟩, ⟨rfl, rfl, trivial⟩⟩⟩
      · simp only at e; subst e
        have := hc.2 rfl
        exact ⟨by simp only; omega, ho⟩
      · simp only at e; subst e; exact ho
      · cases ch <;> simp
  · subst h
    have ho := hnch rfl
    (conv => whnf)
    refine loop_intro (fun k : Nat => ⟨[(1, Lr rows), (7, .one (.row 0)), (8, .one (.row 1)), (14, I k)], [(0, .rows 2 1 (x0.map encI)), (1, .rows 3 1 (s0.map encI))], 2⟩)
      (fun k => k ≤ rows.length ∧ (rows.take k).all (sat · x0) = true) (fun k => rows.length - k) [] 0 [] ⟨Nat.zero_le _, rfl⟩ ⟨⟨rfl, rfl, rfl, rfl, trivial⟩, ⟨rfl, rfl, trivial⟩⟩ ?_
    rintro k ⟨hk, hall⟩
    (conv => whnf)
    refine ask_m (fun h => ?_) (fun h => ?_)
    · have hlt : k < rows.length := by simpa using h
      obtain ⟨r, hrk⟩ : ∃ r, rows[k]? = some r := ⟨_, List.getElem?_eq_getElem hlt⟩
      obtain ⟨hri, _⟩ := v5 r (List.mem_of_getElem? hrk)
      have hri' : rowIn r x0.length := hx0.1 ▸ hri
      have hkk : IntKind.i64.wrap ((k : Int) + 1) = ((k + 1 : Nat) : Int) := by rw [w64] <;> omega
      (conv => whnf)
      refine idx_and (by omega) (by simpa using hrk) ?_
      (conv => whnf)
      have hxl := hx0.1
      refine call_i (f45_sat r x0 hri' hx0.mild (by omega)) ?_
      (conv => whnf)
      refine ⟨⟨trivial, trivial⟩, ?_⟩
      (conv => whnf)
      refine ask_m (fun h => ?_) (fun h => ?_)
      · (conv => whnf)
        refine retO [.own 4 2 1] ?_
        have : great top rows = ([], s0, false) := by
          have hs : sat r x0 = false := by simpa using h
          rw [← ho, fin, if_neg]
          rw [all_not (f := (sat · x0)) hrk hs]; simp
        rw [this]
        exact ⟨[(0, 2), (1, 1)], ⟨rfl, trivial⟩, ⟨rfl, rfl, trivial⟩⟩
      · (conv => whnf)
        exact ⟨k + 1, [], ⟨hlt, all_take hall hrk (by simpa using h)⟩, by omega, ⟨⟨rfl, rfl, rfl, eqI hkk, trivial⟩, ⟨rfl, rfl, trivial⟩⟩⟩
    · have hk : k = rows.length := by simp at h; omega
      subst hk
      rw [List.take_length] at hall
      (conv => whnf)
      refine ret0 ?_
      have : great top rows = (x0, s0, true) := by rw [← ho, fin, if_pos hall]
      rw [this]
      exact ⟨[], ⟨rfl, trivial⟩, ⟨rfl, rfl, trivial⟩⟩
end Go.Proofs.Ytejjkajknmhplaa
