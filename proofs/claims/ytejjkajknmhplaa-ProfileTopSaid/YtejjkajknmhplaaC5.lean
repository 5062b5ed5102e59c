/- For every input, ProfileTop returns true and leaves its arguments as they were. Conditions: none beyond the given statement. -/
import Derived.Test.YtejjkajknmhplaaX17
namespace Go.Proofs.Ytejjkajknmhplaa
open Eng
set_option maxRecDepth 10000
attribute [local irreducible] FnOk loopW idxF retX

def encL (y : List Int) : List DV := [.lst 1 (y.map encI)]
def ys (top : List Int) (rows : List Row) (m n : List Int) : List (List Int) := [lowered top rows m, levels top n, List.replicate top.length 0]
theorem best_top {top : List Int} {rows : List Row} {g : List Int × List Int × Bool} (h : Best top rows g) {y : List Int} (hy : feas top rows y = true) : g.2.2 = true ∧ below y g.1 := by
  obtain ⟨_, h⟩ := h
  rcases hb : g.2.2 with _ | _
  · rw [hb] at h
    have := h.2.2 y
    rw [this] at hy; cases hy
  · rw [hb] at h
    exact ⟨rfl, h.1.hall y hy⟩
theorem best_feas {top : List Int} {rows : List Row} {g : List Int × List Int × Bool} (h : Best top rows g) (hok : g.2.2 = true) : feas top rows g.1 = true := by
  obtain ⟨_, h⟩ := h
  rw [hok] at h
  exact h.2
theorem f5_ok (l m n : List Int) (hl : l.length ≤ 17592186044416) (hm : m.length ≤ 17592186044416) (hn : n.length ≤ 17592186044416) : FnOk Try.prog 5 [Li l, Li m, Li n] [] 0 (Bo true) [] 0 := by
  refine fnOk tab mix Try.func5 rfl rfl (by kernel_rfl) rfl rfl ?_
  have ht := lim_tame l
  have hr := limRows_len l
  have ht1 := ht.1
  have hla := lowered_len (limTop l) (limRows l) m
  have hlb := levels_len (limTop l) n
  have hbest := lim_best l
  have hgl := great_len (limTop l) (limRows l)
  (conv => whnf)
  refine call_i (f15_ok l (by omega)) ?_
  (conv => whnf)
  refine call_i (f19_ok (limTop l) (limRows l) (by omega) (by omega)) ?_
  (conv => whnf)
  refine ⟨⟨flatG3 _, flatI _ _, flatI _ _, trivial⟩, ?_⟩
  generalize great (limTop l) (limRows l) = g at *
  (conv => whnf)
  refine ask_m (fun hok => ?_) (fun hok => ?_)
  · (conv => whnf)
    refine call_i (f20_ok (limTop l) (limRows l) g.1 (by omega)) ?_
    (conv => whnf)
    refine ⟨⟨trivial, trivial⟩, ?_⟩
    (conv => whnf)
    refine ask_mf (by rw [best_feas hbest hok]; rfl) ?_
    (conv => whnf)
    refine call_i (f17_ok (limTop l) (limRows l) m ht (by omega) (by omega)) ?_
    (conv => whnf)
    refine ⟨⟨trivial, flatI _ _, trivial⟩, ?_⟩
    (conv => whnf)
    refine call_i (f21_ok (limTop l) n ht (by omega)) ?_
    (conv => whnf)
    refine ⟨⟨trivial, flatI _ _, trivial⟩, ?_⟩
    (conv => whnf)
    refine ⟨⟨by omega, by omega, by simp; omega, by simp; omega⟩, ?_⟩
    (conv => whnf)
    have hys : ∀ y ∈ ys (limTop l) (limRows l) m n, y.length ≤ 64 := by
      intro y hy
      simp only [ys, List.mem_cons, List.not_mem_nil, or_false] at hy
      rcases hy with rfl | rfl | rfl
      · omega
      · omega
      · simp; omega
    have hy3 : (ys (limTop l) (limRows l) m n).length = 3 := rfl
    refine loop_intro (fun i : Nat => ⟨[(7, .one (.row 0)), (8, .one (.row 1)), (9, .one (.row 2)), (11, Bo g.2.2), (45, .one (.row 3)), (46, I 3), (47, I i)], [(0, .rows 2 1 ((limTop l).map encI)), (1, .rows 25 4 ((limRows l).map encR)), (2, .rows 2 1 (g.1.map encI)), (3, .rows 22 1 ((ys (limTop l) (limRows l) m n).map encL))], 4⟩) (fun i => i ≤ 3) (fun i => 3 - i) [] 0 [(3, 7)] (Nat.zero_le _) ⟨⟨rfl, rfl, rfl, rfl, rfl, rfl, rfl, trivial⟩, ⟨rfl, rfl, rfl, ?_, trivial⟩⟩ ?_
    · simp only [ys, List.map_cons, List.map_nil, encL, List.map_replicate, encI]
      simp [lkb, rho, renB, ren, renM, kills]
    generalize ys (limTop l) (limRows l) m n = yy at *
    rintro i hi
    have hkk : IntKind.i64.wrap ((i : Int) + 1) = ((i + 1 : Nat) : Int) := by rw [w64] <;> omega
    (conv => whnf)
    refine ask_m (fun h => ?_) (fun h => ?_)
    · have hlt : i < 3 := by have := of_decide_eq_true h; omega
      obtain ⟨y, hy⟩ : ∃ y, yy[i]? = some y := ⟨_, List.getElem?_eq_getElem (by omega)⟩
      have hyl := hys y (List.mem_of_getElem? hy)
      (conv => whnf)
      refine ⟨⟨by omega, by simp only [List.length_map]; omega⟩, ?_⟩
      (conv => whnf)
      refine idx_map (by simpa using hy) ?_
      (conv => whnf)
      refine call_i (f20_ok (limTop l) (limRows l) y (by omega)) ?_
      (conv => whnf)
      refine ⟨⟨trivial, trivial⟩, ?_⟩
      (conv => whnf)
      refine ask_m (fun hf => ?_) (fun hf => ?_)
      · (conv => whnf)
        exact ⟨i + 1, [], by omega, by omega, ⟨⟨rfl, rfl, rfl, rfl, rfl, rfl, eqI hkk, trivial⟩, ⟨rfl, rfl, rfl, rfl, trivial⟩⟩⟩
      · have hf : feas (limTop l) (limRows l) y = true := by simpa using hf
        obtain ⟨hok2, hbel⟩ := best_top hbest hf
        have hbl := hbel.1
        (conv => whnf)
        refine ask_mf (by rw [hok2]; rfl) ?_
        (conv => whnf)
        refine ask_mf (by simp; omega) ?_
        (conv => whnf)
        refine loop_intro (fun j : Nat => ⟨[(7, .one (.row 0)), (8, .one (.row 1)), (9, .one (.row 2)), (11, Bo g.2.2), (13, Li y), (14, I j), (45, .one (.row 3)), (46, I 3), (47, I i)], [(0, .rows 2 1 ((limTop l).map encI)), (1, .rows 25 4 ((limRows l).map encR)), (2, .rows 2 1 (g.1.map encI)), (3, .rows 22 1 (yy.map encL))], 4⟩) (fun j => j ≤ y.length) (fun j => y.length - j) [] 0 [] (Nat.zero_le _) ⟨⟨rfl, rfl, rfl, rfl, rfl, rfl, rfl, rfl, rfl, trivial⟩, ⟨rfl, rfl, rfl, rfl, trivial⟩⟩ ?_
        rintro j hj
        have hjj : IntKind.i64.wrap ((j : Int) + 1) = ((j + 1 : Nat) : Int) := by rw [w64] <;> omega
        (conv => whnf)
        refine ask_m (fun h => ?_) (fun h => ?_)
        · have hlt2 : j < y.length := by simpa using h
          (conv => whnf)
          refine idx_and (by omega) (lv_some (x := y) (i := (j : Int)) (by simpa using hlt2)) ?_
          (conv => whnf)
          refine ⟨⟨by omega, by simp only [List.length_map]; omega⟩, ?_⟩
          (conv => whnf)
          refine idx_map (lv_some (x := g.1) (i := (j : Int)) (by simp; omega)) ?_
          (conv => whnf)
          refine ask_mf (by have := hbel.2 j; simp only [decide_eq_false_iff_not]; omega) ?_
          (conv => whnf)
          exact ⟨j + 1, [], hlt2, by omega, ⟨⟨rfl, rfl, rfl, rfl, rfl, eqI hjj, rfl, rfl, rfl, trivial⟩, ⟨rfl, rfl, rfl, rfl, trivial⟩⟩⟩
        · (conv => whnf)
          exact ⟨i + 1, [], by omega, by omega, ⟨⟨rfl, rfl, rfl, rfl, rfl, rfl, eqI hkk, trivial⟩, ⟨rfl, rfl, rfl, rfl, trivial⟩⟩⟩
    · (conv => whnf)
      refine call_i f14_ok ?_
      (conv => whnf)
      refine ret0 ?_
      exact ret_b rfl rfl
  · skip
    (conv => whnf)
    refine call_i (f17_ok (limTop l) (limRows l) m ht (by omega) (by omega)) ?_
    (conv => whnf)
    refine ⟨⟨trivial, flatI _ _, trivial⟩, ?_⟩
    (conv => whnf)
    refine call_i (f21_ok (limTop l) n ht (by omega)) ?_
    (conv => whnf)
    refine ⟨⟨trivial, flatI _ _, trivial⟩, ?_⟩
    (conv => whnf)
    refine ⟨⟨by omega, by omega, by simp; omega, by simp; omega⟩, ?_⟩
    (conv => whnf)
    have hys : ∀ y ∈ ys (limTop l) (limRows l) m n, y.length ≤ 64 := by
      intro y hy
      simp only [ys, List.mem_cons, List.not_mem_nil, or_false] at hy
      rcases hy with rfl | rfl | rfl
      · omega
      · omega
      · simp; omega
    have hy3 : (ys (limTop l) (limRows l) m n).length = 3 := rfl
    refine loop_intro (fun i : Nat => ⟨[(7, .one (.row 0)), (8, .one (.row 1)), (9, .one (.row 2)), (11, Bo g.2.2), (45, .one (.row 3)), (46, I 3), (47, I i)], [(0, .rows 2 1 ((limTop l).map encI)), (1, .rows 25 4 ((limRows l).map encR)), (2, .rows 2 1 (g.1.map encI)), (3, .rows 22 1 ((ys (limTop l) (limRows l) m n).map encL))], 4⟩) (fun i => i ≤ 3) (fun i => 3 - i) [] 0 [(3, 7)] (Nat.zero_le _) ⟨⟨rfl, rfl, rfl, rfl, rfl, rfl, rfl, trivial⟩, ⟨rfl, rfl, rfl, ?_, trivial⟩⟩ ?_
    · simp only [ys, List.map_cons, List.map_nil, encL, List.map_replicate, encI]
      simp [lkb, rho, renB, ren, renM, kills]
    generalize ys (limTop l) (limRows l) m n = yy at *
    rintro i hi
    have hkk : IntKind.i64.wrap ((i : Int) + 1) = ((i + 1 : Nat) : Int) := by rw [w64] <;> omega
    (conv => whnf)
    refine ask_m (fun h => ?_) (fun h => ?_)
    · have hlt : i < 3 := by have := of_decide_eq_true h; omega
      obtain ⟨y, hy⟩ : ∃ y, yy[i]? = some y := ⟨_, List.getElem?_eq_getElem (by omega)⟩
      have hyl := hys y (List.mem_of_getElem? hy)
      (conv => whnf)
      refine ⟨⟨by omega, by simp only [List.length_map]; omega⟩, ?_⟩
      (conv => whnf)
      refine idx_map (by simpa using hy) ?_
      (conv => whnf)
      refine call_i (f20_ok (limTop l) (limRows l) y (by omega)) ?_
      (conv => whnf)
      refine ⟨⟨trivial, trivial⟩, ?_⟩
      (conv => whnf)
      refine ask_m (fun hf => ?_) (fun hf => ?_)
      · (conv => whnf)
        exact ⟨i + 1, [], by omega, by omega, ⟨⟨rfl, rfl, rfl, rfl, rfl, rfl, eqI hkk, trivial⟩, ⟨rfl, rfl, rfl, rfl, trivial⟩⟩⟩
      · have hf : feas (limTop l) (limRows l) y = true := by simpa using hf
        obtain ⟨hok2, hbel⟩ := best_top hbest hf
        have hbl := hbel.1
        (conv => whnf)
        refine ask_mf (by rw [hok2]; rfl) ?_
        (conv => whnf)
        refine ask_mf (by simp; omega) ?_
        (conv => whnf)
        refine loop_intro (fun j : Nat => ⟨[(7, .one (.row 0)), (8, .one (.row 1)), (9, .one (.row 2)), (11, Bo g.2.2), (13, Li y), (14, I j), (45, .one (.row 3)), (46, I 3), (47, I i)], [(0, .rows 2 1 ((limTop l).map encI)), (1, .rows 25 4 ((limRows l).map encR)), (2, .rows 2 1 (g.1.map encI)), (3, .rows 22 1 (yy.map encL))], 4⟩) (fun j => j ≤ y.length) (fun j => y.length - j) [] 0 [] (Nat.zero_le _) ⟨⟨rfl, rfl, rfl, rfl, rfl, rfl, rfl, rfl, rfl, trivial⟩, ⟨rfl, rfl, rfl, rfl, trivial⟩⟩ ?_
        rintro j hj
        have hjj : IntKind.i64.wrap ((j : Int) + 1) = ((j + 1 : Nat) : Int) := by rw [w64] <;> omega
        (conv => whnf)
        refine ask_m (fun h => ?_) (fun h => ?_)
        · have hlt2 : j < y.length := by simpa using h
          (conv => whnf)
          refine idx_and (by omega) (lv_some (x := y) (i := (j : Int)) (by simpa using hlt2)) ?_
          (conv => whnf)
          refine ⟨⟨by omega, by simp only [List.length_map]; omega⟩, ?_⟩
          (conv => whnf)
          refine idx_map (lv_some (x := g.1) (i := (j : Int)) (by simp; omega)) ?_
          (conv => whnf)
          refine ask_mf (by have := hbel.2 j; simp only [decide_eq_false_iff_not]; omega) ?_
          (conv => whnf)
          exact ⟨j + 1, [], hlt2, by omega, ⟨⟨rfl, rfl, rfl, rfl, rfl, eqI hjj, rfl, rfl, rfl, trivial⟩, ⟨rfl, rfl, rfl, rfl, trivial⟩⟩⟩
        · (conv => whnf)
          exact ⟨i + 1, [], by omega, by omega, ⟨⟨rfl, rfl, rfl, rfl, rfl, rfl, eqI hkk, trivial⟩, ⟨rfl, rfl, rfl, rfl, trivial⟩⟩⟩
    · (conv => whnf)
      refine call_i f14_ok ?_
      (conv => whnf)
      refine ret0 ?_
      exact ret_b rfl rfl
theorem law5 (dss : List (List DV)) (h : All2 (fun t ds => Typed T 8 t ds) [26, 26, 26] dss) : FnOk Try.prog 5 (mkSs T [26, 26, 26] dss) [] 0 (Bo true) [] 0 := by
  obtain ⟨a, q, rfl, ha, h⟩ := all2_cons h
  obtain ⟨b, q, rfl, hb, h⟩ := all2_cons h
  obtain ⟨c, q, rfl, hc, h⟩ := all2_cons h
  obtain rfl := all2_nil h
  obtain ⟨a, rfl, ka⟩ := typed26 ha
  obtain ⟨b, rfl, kb⟩ := typed26 hb
  obtain ⟨c, rfl, kc⟩ := typed26 hc
  exact f5_ok a b c ka kb kc
theorem lifted5 (os : Os) (started : os.Started) (H : Type) (enc : TypeId × Value → H) :
    ReturnsInHanded {} Try.checked os 5 .any (Rows.profileTopSpec.pre6 enc Try.prog Try.f5 Rows.profileTopRow.domain false) (Rows.profileTopSpec.post enc Try.prog Try.f5 false true false false) := by
  refine returnsInHanded_of_change_sized (C := Try.checked) own started (by kernel_rfl) Try.func5
    (ChangeSpec.witness6 (enc := enc) (C := Try.checked) false ⟨#[], #[.slice none 0 0, .slice none 0 0, .slice none 0 0], []⟩ 8 (by kernel_rfl) (by kernel_rfl) (by kernel_rfl) (by kernel_rfl)) ?_
  intro W base args ds gs before hval hW _ hsz _
  exact law_contract (T := T) (n := 8) (tb := 4) (ts := [26, 26, 26]) tab laid rfl rfl (by kernel_rfl) rfl (by kernel_rfl) (fun ds hd => by
    match ds, hd with
    | [_, _, _], _ => rfl) law5 hval hW hsz
/-- For every input ProfileTop returns true. -/
theorem profileTop_holds : Rows.ProfileTopSaid :=
  OpenClaim.holds_of_wide 5 Try.f5 rfl rfl rfl rfl rfl rfl rfl ⟨rfl, rfl, rfl, rfl, rfl⟩ rfl rfl rfl rfl rfl (by kernel_rfl) Try.func5 (by kernel_rfl)
    (of_decide_eq_true (by kernel_rfl)) (by unfold Func.isWrapper; first | (rw [if_pos (by decide +kernel)]; kernel_rfl) | (rw [if_neg (by decide +kernel)]; exact ⟨rfl, rfl⟩))
    (fun os started H enc _ => lifted5 os started H enc)
end Go.Proofs.Ytejjkajknmhplaa
