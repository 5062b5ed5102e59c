/- law9: SceneSkips. -/
import Derived.Test.YtgakendcmakndaaSb
namespace Go.Proofs.Ytgakendcmakndaa
open Eng
set_option maxRecDepth 10000
attribute [local irreducible] FnOk loopW idxF retX arrF

def twice (ks : List Skip) : List Skip := ks.flatMap fun x => [⟨x.b, x.a⟩, x]
theorem twice_succ {ks : List Skip} {i : Nat} {x : Skip} (h : ks[i]? = some x) : twice (ks.take (i + 1)) = twice (ks.take i) ++ [⟨x.b, x.a⟩, x] := by
  rw [List.take_add_one, h, twice, List.flatMap_append]; rfl
theorem twice_len (ks : List Skip) : (twice ks).length = 2 * ks.length := by
  induction ks with
  | nil => rfl
  | cons k ks ih => show (_ :: _ :: twice ks).length = _; simp [ih]; omega
def twiceS (s : Scene) : Scene := ⟨s.robot, s.shapes, twice s.skips⟩
def more (s : Scene) (a b : Int) : Scene := ⟨s.robot, s.shapes, s.skips ++ [⟨a % ((s.robot.joints.length : Int) + 1) - 1, b % ((s.robot.joints.length : Int) + 1) - 1⟩]⟩
def keep (u : Scene) (q : Pair) : Bool := match u.shapes[q.a.toNat]?, u.shapes[q.b.toNat]? with
  | some x, some y => !skipped u x.link y.link
  | _, _ => false
theorem small_more {s : Scene} {a b : Int} (h : small s) (hk : s.skips.length ≤ 1) : small (more s a b) := ⟨h.1, h.2.1, h.2.2.1, by simp [more]; omega, h.2.2.2.2⟩
theorem small_twice {s : Scene} (h : small s) (hk : s.skips.length ≤ 1) : small (twiceS s) := ⟨h.1, h.2.1, h.2.2.1, by simp [twiceS, twice_len]; omega, h.2.2.2.2⟩
theorem pairs_mem {s : Scene} {q : Pair} (h : q ∈ pairs s) : ∃ i j : Nat, i < j ∧ j < s.shapes.length ∧ q = ⟨(i : Int), (j : Int)⟩ ∧ ∃ x y, s.shapes[i]? = some x ∧ s.shapes[j]? = some y := by
  unfold pairs at h
  split at h
  · simp only [pairsTo, pairRow, List.mem_flatMap, List.mem_map, List.mem_filter, List.mem_range] at h
    obtain ⟨i, hi, j, ⟨hj, hw⟩, rfl⟩ := h
    simp only [wantAt, Bool.and_eq_true, decide_eq_true_eq] at hw
    exact ⟨i, j, hw.1, hj, rfl, _, _, List.getElem?_eq_getElem hi, List.getElem?_eq_getElem hj⟩
  · simp at h
theorem with_skips {s : Scene} {ks : List Skip} (h : checkScene s = 0) (h1 : ks.length ≤ 64) (h2 : (ks.all fun k => linkOk s.robot.joints.length k.a && linkOk s.robot.joints.length k.b) = true) : checkScene ⟨s.robot, s.shapes, ks⟩ = 0 := by
  obtain ⟨g1, g2, g3, g4⟩ := scene_good h
  unfold checkScene at h
  split at h
  · contradiction
  split at h
  · contradiction
  split at h
  · contradiction
  rename_i h3
  simp only [ne_eq, Decidable.not_not] at h3
  exact scene_valid g1 g2 (fun x hx => serr_at h3 hx) h1 h2
theorem skips_in {s : Scene} (h : checkScene s = 0) : ∀ k ∈ s.skips, linkOk s.robot.joints.length k.a = true ∧ linkOk s.robot.joints.length k.b = true := by
  unfold checkScene at h
  split at h
  · contradiction
  split at h
  · contradiction
  split at h
  · contradiction
  split at h
  · contradiction
  split at h
  · contradiction
  rename_i h5
  have := (Bool.eq_false_or_eq_true _).resolve_right h5
  intro k hk
  simpa using List.all_eq_true.1 this k hk
theorem twice_ok {s : Scene} (h : checkScene s = 0) (hk : s.skips.length ≤ 1) : checkScene (twiceS s) = 0 := by
  refine with_skips h (by rw [twice_len]; omega) ?_
  rw [List.all_eq_true]
  intro k hk
  simp only [twice, List.mem_flatMap, List.mem_cons, List.not_mem_nil, or_false] at hk
  obtain ⟨x, hx, rfl | rfl⟩ := hk
  · obtain ⟨h1, h2⟩ := skips_in h x hx
    simp [h1, h2]
  · obtain ⟨h1, h2⟩ := skips_in h k hx
    simp [h1, h2]
theorem twice_skipped (s : Scene) (a b : Int) : skipped (twiceS s) a b = skipped s a b := by
  have h : ∀ ks : List Skip, (twice ks).any (isSkip a b) = ks.any (isSkip a b) := by
    intro ks
    induction ks with
    | nil => rfl
    | cons k ks ih =>
      show (isSkip a b ⟨k.b, k.a⟩ || (isSkip a b k || (twice ks).any (isSkip a b))) = (isSkip a b k || ks.any (isSkip a b))
      rw [ih]
      have : isSkip a b ⟨k.b, k.a⟩ = isSkip a b k := by
        simp only [isSkip]
        rw [Bool.or_comm]
        congr 1 <;> exact Bool.and_comm _ _
      rw [this, ← Bool.or_assoc, Bool.or_self]
  exact h s.skips
theorem twice_pairs {s : Scene} (h : checkScene s = 0) (hk : s.skips.length ≤ 1) : pairs s = pairs (twiceS s) := by
  refine pairs_congr h (twice_ok h hk) rfl fun x _ y _ => ?_
  rw [wanted, wanted, twice_skipped]; rfl
theorem more_ok {s : Scene} {a b : Int} (h : checkScene s = 0) (hk : s.skips.length ≤ 1) : checkScene (more s a b) = 0 := by
  refine with_skips h (by simp; omega) ?_
  have ra := Int.emod_nonneg a (b := (s.robot.joints.length : Int) + 1) (by omega)
  have ra' := Int.emod_lt_of_pos a (b := (s.robot.joints.length : Int) + 1) (by omega)
  have rb := Int.emod_nonneg b (b := (s.robot.joints.length : Int) + 1) (by omega)
  have rb' := Int.emod_lt_of_pos b (b := (s.robot.joints.length : Int) + 1) (by omega)
  rw [List.all_append, Bool.and_eq_true]
  refine ⟨List.all_eq_true.2 fun k hk => by obtain ⟨h1, h2⟩ := skips_in h k hk; simp [h1, h2], ?_⟩
  simp only [List.all_cons, List.all_nil, Bool.and_true, Bool.and_eq_true]
  exact ⟨linkOk_mk (by omega) (by omega), linkOk_mk (by omega) (by omega)⟩
theorem more_pairs {s : Scene} {a b : Int} (h : checkScene s = 0) (hk : s.skips.length ≤ 1) : (pairs s).filter (keep (more s a b)) = pairs (more s a b) := by
  rw [pairs, pairs, if_pos h, if_pos (more_ok h hk), pairsTo, pairsTo, List.filter_flatMap]
  show List.flatMap _ (List.range s.shapes.length) = List.flatMap _ (List.range s.shapes.length)
  congr 1
  funext i
  unfold pairRow
  rw [List.filter_map, List.filter_filter]
  show List.map _ (List.filter _ (List.range s.shapes.length)) = List.map _ (List.filter _ (List.range s.shapes.length))
  congr 2
  funext j
  simp only [Function.comp, keep, Int.toNat_natCast, wantAt]
  show ((match s.shapes[i]?, s.shapes[j]? with
    | some x, some y => !skipped (more s a b) x.link y.link
    | _, _ => false) && (decide (i < j) && match s.shapes[i]?, s.shapes[j]? with
    | some x, some y => wanted s x y
    | _, _ => false)) = (decide (i < j) && match s.shapes[i]?, s.shapes[j]? with
    | some x, some y => wanted (more s a b) x y
    | _, _ => false)
  cases hx : s.shapes[i]? with
  | none => simp
  | some x => cases hy : s.shapes[j]? with
    | none => simp
    | some y =>
      have hsk : skipped s x.link y.link = true → skipped (more s a b) x.link y.link = true := fun h => by
        simp only [skipped, more, List.any_append, Bool.or_eq_true]; exact .inl h
      have hc : ∀ k, carr (more s a b) k = carr s k := fun _ => rfl
      simp only [wanted, hc]
      cases h1 : skipped s x.link y.link
      · cases skipped (more s a b) x.link y.link <;> simp
      · rw [hsk h1]; simp
theorem law9_Skips (l : List Int) (a b : Int) (hl : l.length ≤ 17592186044416) : FnOk Try.prog F.law9_SceneSkips [Li l, I a, I b] [] 0 (Bo true) [] 0 := by
  refine fnOk tab mix G.law9_SceneSkips rfl rfl (by kernel_rfl) rfl rfl ?_
  (conv => whnf)
  have ho := mkScene_ok l
  have hsm := mkScene_small l
  have h3 := joints3 l
  have hk := (mkScene_len l).2.1
  refine call_i (mk_Scene l (by omega)) ?_
  (conv => whnf)
  generalize mkScene l = s at *
  have hnn : IntKind.i64.wrap ((s.robot.joints.length : Int) + 1) = (s.robot.joints.length : Int) + 1 := by rw [w64] <;> omega
  have ra := Int.emod_nonneg a (b := (s.robot.joints.length : Int) + 1) (by omega)
  have ra' := Int.emod_lt_of_pos a (b := (s.robot.joints.length : Int) + 1) (by omega)
  have rb := Int.emod_nonneg b (b := (s.robot.joints.length : Int) + 1) (by omega)
  have rb' := Int.emod_lt_of_pos b (b := (s.robot.joints.length : Int) + 1) (by omega)
  refine loop_intro (fun i : Nat => ⟨[(1, I a), (2, I b), (7, .one (.vptr 0 0)), (8, .one (.vptr 1 0)), (9, I i)], [(0, bSc s), (1, .vars Y.Scene [.dv (dJs s.robot.joints), .dv (dMs s.robot.masses), .dv (dShs s.shapes), .row 2]), (2, .rows Y.Skip 2 ((twice (s.skips.take i)).map encSk))], 3⟩) (fun i => i ≤ s.skips.length) (fun i => s.skips.length - i) [.ownC 1 3 Y.Skip 2] 0 [] (Nat.zero_le _) ⟨⟨rfl, rfl, rfl, rfl, rfl, trivial⟩, ⟨rfl, rfl, rfl, trivial⟩⟩ ?_
  rintro i hi
  (conv => whnf)
  refine ask_m (fun h => ?_) (fun h => ?_)
  · have hlt : i < s.skips.length := by simp at h; omega
    obtain ⟨x, hx⟩ : ∃ x, s.skips[i]? = some x := ⟨_, List.getElem?_eq_getElem hlt⟩
    have hii : IntKind.i64.wrap ((i : Int) + 1) = ((i + 1 : Nat) : Int) := by rw [w64] <;> omega
    have ht := twice_len (s.skips.take i)
    (conv => whnf)
    refine idx_and (by omega) (by simpa using hx) ?_
    (conv => whnf)
    refine ⟨⟨by simp [ht]; omega, by simp [ht]; omega⟩, ?_⟩
    (conv => whnf)
    refine ⟨i + 1, [(2, 5)], hlt, by omega, ⟨⟨rfl, rfl, rfl, rfl, eqI hii, trivial⟩, ⟨rfl, rfl, ?_, trivial⟩⟩⟩
    show Box.rows Y.Skip 2 _ = Box.rows Y.Skip 2 _
    refine congrArg _ ?_
    rw [twice_succ hx, List.map_append]; rfl
  · have hi : i = s.skips.length := by simp at h; omega
    subst hi
    rw [List.take_length]
    (conv => whnf)
    rw [List.length_map encJ, hnn]
    refine ⟨⟨by simp; omega, by simp; omega⟩, ?_⟩
    (conv => whnf)
    refine call_i (mk_Round a ((s.robot.joints.length : Int) + 1) (by omega) (by omega)) ?_
    (conv => whnf)
    refine call_i (mk_Round b ((s.robot.joints.length : Int) + 1) (by omega) (by omega)) ?_
    (conv => whnf)
    rw [w64 (x := a % _ - 1) (by omega) (by omega), w64 (x := b % _ - 1) (by omega) (by omega)]
    refine ⟨⟨by simp; omega, by simp; omega⟩, ?_⟩
    (conv => whnf)
    have happ : s.skips.map encSk ++ [[.int .i64 (a % ((s.robot.joints.length : Int) + 1) - 1), .int .i64 (b % ((s.robot.joints.length : Int) + 1) - 1)]] = (more s a b).skips.map encSk := by rw [more, List.map_append]; rfl
    rw [happ]
    refine call_i (scene_Pairs s hsm) ?_
    (conv => whnf)
    refine call_i (scene_Pairs (more s a b) (small_more hsm hk)) ?_
    (conv => whnf)
    refine ⟨⟨trivial, flatPa _ _, trivial⟩, ?_⟩
    (conv => whnf)
    have hmem := @pairs_mem s
    have hpl := pairs_len s
    refine loop_intro (fun i : Nat => ⟨[(7, .one (.vptr 0 0)), (8, .one (.vptr 1 0)), (12, .one (.vptr 3 0)), (13, .one (.row 5)), (14, .one (.row 6)), (15, .one (.row 7)), (16, I i)], [(0, bSc s), (1, .vars Y.Scene [.dv (dJs s.robot.joints), .dv (dMs s.robot.masses), .dv (dShs s.shapes), .row 2]), (2, .rows Y.Skip 2 ((twice s.skips).map encSk)), (3, .vars Y.Scene [.dv (dJs s.robot.joints), .dv (dMs s.robot.masses), .dv (dShs s.shapes), .row 4]), (4, .rows Y.Skip 2 ((more s a b).skips.map encSk)), (5, bPa (pairs s)), (6, bPa (pairs (more s a b))), (7, bPa (((pairs s).take i).filter (keep (more s a b))))], 8⟩) (fun i => i ≤ (pairs s).length) (fun i => (pairs s).length - i) [.own 15 Y.Pair 2] 0 [(3, 6), (4, 5), (5, 7), (6, 8), (7, 9)] (Nat.zero_le _) ⟨⟨rfl, rfl, rfl, rfl, rfl, rfl, rfl, trivial⟩, ⟨rfl, rfl, rfl, rfl, rfl, rfl, rfl, rfl, trivial⟩⟩ ?_
    rintro i hi
    (conv => whnf)
    refine ask_m (fun h => ?_) (fun h => ?_)
    · have hlt : i < (pairs s).length := by simp at h; omega
      obtain ⟨q, hq⟩ : ∃ x, (pairs s)[i]? = some x := ⟨_, List.getElem?_eq_getElem hlt⟩
      have hii : IntKind.i64.wrap ((i : Int) + 1) = ((i + 1 : Nat) : Int) := by rw [w64] <;> omega
      obtain ⟨i1, j1, hij, hjn, rfl, x, y, hx, hy⟩ := hmem (List.mem_of_getElem? hq)
      have hfl : (((pairs s).take i).filter (keep (more s a b))).length ≤ i := Nat.le_trans (List.length_filter_le _ _) (by simp; omega)
      have hkq : keep (more s a b) ⟨i1, j1⟩ = !skipped (more s a b) x.link y.link := by
        have h1 : (more s a b).shapes[i1]? = some x := hx
        have h2 : (more s a b).shapes[j1]? = some y := hy
        simp only [keep, Int.toNat_natCast, h1, h2]
      have htk : ((pairs s).take (i + 1)).filter (keep (more s a b)) = ((pairs s).take i).filter (keep (more s a b)) ++ if keep (more s a b) ⟨i1, j1⟩ then [⟨i1, j1⟩] else [] := by
        rw [List.take_add_one, hq, List.filter_append]
        by_cases hc : keep (more s a b) ⟨i1, j1⟩ <;> simp [hc]
      (conv => whnf)
      refine ⟨⟨by omega, by simp; omega⟩, ?_⟩
      (conv => whnf)
      refine idx_map (by simpa using hq) ?_
      (conv => whnf)
      refine ⟨⟨by omega, by simp; omega⟩, ?_⟩
      (conv => whnf)
      refine idx_map (by simpa using hq) ?_
      (conv => whnf)
      refine ask_mf (by simp; omega) ?_
      (conv => whnf)
      refine ⟨⟨by omega, by simp; omega⟩, ?_⟩
      (conv => whnf)
      refine idx_map (by simpa using hq) ?_
      (conv => whnf)
      refine ⟨⟨by omega, by simp; omega⟩, ?_⟩
      (conv => whnf)
      refine idx_map (by simpa using hq) ?_
      (conv => whnf)
      refine ask_mf (by simp; omega) ?_
      (conv => whnf)
      refine ⟨⟨by omega, by simp; omega⟩, ?_⟩
      (conv => whnf)
      refine idx_map (by simpa using hq) ?_
      (conv => whnf)
      refine idx_and (by simp) (by simpa using hx) ?_
      (conv => whnf)
      refine ⟨⟨by omega, by simp; omega⟩, ?_⟩
      (conv => whnf)
      refine idx_map (by simpa using hq) ?_
      (conv => whnf)
      refine idx_and (by simp) (by simpa using hy) ?_
      (conv => whnf)
      refine call_i (scene_Skipped (more s a b) x.link y.link (by simp [more]; omega)) ?_
      (conv => whnf)
      refine ⟨⟨trivial, trivial⟩, ?_⟩
      (conv => whnf)
      refine ask_m (fun h => ?_) (fun h => ?_)
      · have hkt : keep (more s a b) ⟨i1, j1⟩ = true := by rw [hkq]; exact h
        rw [hkt, if_pos rfl] at htk
        (conv => whnf)
        refine ⟨⟨by omega, by simp; omega⟩, ?_⟩
        (conv => whnf)
        refine idx_map (by simpa using hq) ?_
        (conv => whnf)
        refine ⟨⟨by simp; omega, by simp; omega⟩, ?_⟩
        (conv => whnf)
        refine ⟨i + 1, [(7, 9)], hlt, by omega, ⟨⟨rfl, rfl, rfl, rfl, rfl, rfl, eqI hii, trivial⟩, ⟨rfl, rfl, rfl, rfl, rfl, rfl, rfl, ?_, trivial⟩⟩⟩
        show Box.rows Y.Pair 2 _ = Box.rows Y.Pair 2 _
        refine congrArg _ ?_
        rw [htk, List.map_append]; rfl
      · have hkt : keep (more s a b) ⟨i1, j1⟩ = false := by rw [hkq]; exact h
        rw [hkt, if_neg (by simp), List.append_nil] at htk
        (conv => whnf)
        refine ⟨i + 1, [], hlt, by omega, ⟨⟨rfl, rfl, rfl, rfl, rfl, rfl, eqI hii, trivial⟩, ⟨rfl, rfl, rfl, rfl, rfl, rfl, rfl, ?_, trivial⟩⟩⟩
        rw [htk]; rfl
    · have hi : i = (pairs s).length := by simp at h; omega
      subst hi
      rw [List.take_length, more_pairs ho hk]
      (conv => whnf)
      refine call_i (law9_awake) ?_
      (conv => whnf)
      refine call_i (scene_Pairs (twiceS s) (small_twice hsm hk)) ?_
      (conv => whnf)
      refine ⟨⟨trivial, flatPa _ _, trivial⟩, ?_⟩
      (conv => whnf)
      refine call_i (mk_Same_Pair (pairs s) (pairs (twiceS s)) (Nat.le_trans (pairs_len _) (by decide)) (Nat.le_trans (pairs_len _) (by decide))) ?_
      (conv => whnf)
      refine ⟨⟨trivial, trivial⟩, ?_⟩
      (conv => whnf)
      rw [decide_eq_true (twice_pairs ho hk)]
      (conv => whnf)
      refine call_i (mk_Same_Pair (pairs (more s a b)) (pairs (more s a b)) (Nat.le_trans (pairs_len _) (by decide)) (Nat.le_trans (pairs_len _) (by decide))) ?_
      (conv => whnf)
      refine ⟨⟨trivial, trivial⟩, ?_⟩
      (conv => whnf)
      rw [decide_eq_true rfl]
      (conv => whnf)
      refine ret0 ?_
      exact ret_b rfl rfl
theorem law9_SkipsZ (l : List Int) (a b : Int) (hl : l.length ≤ 17592186044416) (_ _ : True) : FnOk Try.prog F.law9_SceneSkips [Li l, I a, I b] [] 0 (Bo true) [] 0 := law9_Skips l a b hl
end Go.Proofs.Ytgakendcmakndaa
