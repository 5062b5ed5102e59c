import Derived.Test.YtopcjmipldkijaaM2
/- law38.TaskKeeps: an action can be undone. -/
namespace Go.Proofs.Ytopcjmipldkijaa
open Eng
set_option maxRecDepth 10000
attribute [local irreducible] FnOk loopW idxF retX arrF findF

def undo (a : TAct) : TAct := ⟨3 - a.kind, a.hand, a.place⟩
theorem undo_facts {w : TWork} {m : List Int} {a : TAct} (hv : ValidF w m) (hc : canB w m a = true) : ∃ i : Nat, m[i]? = some (fromOf a) ∧ setAt m a = m.set i (toOf a) ∧ toOf a ∉ m ∧ applyB w (setAt m a) (undo a) = true ∧ setAt (setAt m a) (undo a) = m := by
  obtain ⟨f, gr, hk⟩ := can_facts hc
  obtain ⟨i, h1, h2⟩ := from_at hc
  have hn := to_not hk
  have hvy := valid_set hv hc
  have hs : setAt m a = m.set i (toOf a) := by rw [setAt, h2, Int.toNat_natCast]
  have hil := (List.getElem?_eq_some_iff.1 h1).1
  have ey : (setAt m a)[i]? = some (toOf a) := by rw [hs, List.getElem?_set_self hil]
  have huniq : ∀ j x, (setAt m a)[j]? = some x → j ≠ i → m[j]? = some x := fun j x hj hne => by rw [hs, List.getElem?_set_ne (by omega)] at hj; exact hj
  have hu : fromOf a ∉ setAt m a := fun hx => by
    obtain ⟨j, hj⟩ := List.getElem?_of_mem hx
    by_cases e : j = i
    · subst e
      rw [ey] at hj
      simp only [Option.some.injEq] at hj
      exact hn (hj ▸ List.mem_of_getElem? h1)
    · have h3 := huniq j _ hj e
      have hjl := (List.getElem?_eq_some_iff.1 h3).1
      have hp := List.pairwise_iff_getElem.1 hv.nd
      have e1 := (List.getElem?_eq_some_iff.1 h3).2
      have e2 := (List.getElem?_eq_some_iff.1 h1).2
      rcases Nat.lt_or_gt_of_ne e with hlt | hgt
      · exact hp j i hjl hil hlt (e1.trans e2.symm)
      · exact hp i j hil hjl hgt (e2.trans e1.symm)
  have hat : objAt (setAt m a) (toOf a) = i := by
    rcases objAt_bd (setAt m a) (toOf a) with ⟨_, h⟩ | ⟨j, hj, e⟩
    · exact absurd (List.mem_of_getElem? ey) h
    · rw [e]
      by_cases e2 : j = i
      · rw [e2]
      · exact absurd (List.mem_of_getElem? (huniq j _ hj e2)) hn
  have hno : ¬ 0 ≤ objAt (setAt m a) (fromOf a) := fun h => hu (objAt_has.1 h)
  have hkd : a.kind = 1 ∨ a.kind = 2 := by rcases canK_kind hk with h | h; exact .inl h.1; exact .inr h.1
  have eu1 : fromOf (undo a) = toOf a := by
    rcases hkd with h | h <;> simp [fromOf, toOf, undo, h]
  have eu2 : toOf (undo a) = fromOf a := by
    rcases hkd with h | h <;> simp [fromOf, toOf, undo, h]
  have hck : canK (setAt m a) (undo a) = true := by
    rcases hkd with h | h
    · rw [fromOf, if_pos h] at hno
      rw [toOf, if_pos h] at hat
      simp [canK, undo, h, hno, hat]
    · rw [fromOf, if_neg (by omega)] at hno
      rw [toOf, if_neg (by omega)] at hat
      simp [canK, undo, h, hno, hat]
  refine ⟨i, h1, hs, hn, ?_, ?_⟩
  · rw [applyB, valid_iff.2 hvy, canB]
    have hkn : knownB w (undo a).hand (undo a).place = true := by show knownB w a.hand a.place = true; simp only [knownB, Bool.and_eq_true, decide_eq_true_eq]; omega
    have hgr : gripped w (undo a).hand (undo a).place = true := gr
    rw [hkn, hgr, hck]; rfl
  · rw [setAt, eu1, eu2, hat, Int.toNat_natCast, hs, List.set_set]
    exact set_same h1
set_option maxHeartbeats 1000000 in
theorem law38_Keeps (l x : List Int) (s : Int) (hl : l.length ≤ 17592186043904) (hx : x.length ≤ 17592186043904) (_ : True) : FnOk Try.prog F.law38_TaskKeeps [Li l, Li x, I s] [] 0 (Bo true) [] 0 := by
  have hm := mkWork_mild l
  have hv := mkMode_valid l x
  refine fnOk tab mix G.law38_TaskKeeps rfl rfl (by kernel_rfl) rfl rfl ?_
  (conv => whnf)
  refine call_i (mk_Workspace l (by omega)) ?_
  (conv => whnf)
  refine call_i (mk_Mode_made l x (by omega)) ?_
  (conv => whnf)
  refine call_i (task_Actions (mkWork l) (mkMode (mkWork l) x) hm) ?_
  (conv => whnf)
  generalize mkWork l = w at *
  generalize mkMode w x = m at *
  have hal := acts_len w m
  have hm6 := hv.le6
  refine ask_m (fun h1 => ?_) (fun h1 => ?_)
  · (conv => whnf)
    refine call_i (law38_awake) ?_
    (conv => whnf)
    (conv => whnf)
    refine ret0 ?_
    exact ret_b rfl rfl
  have h1 : 0 < (actsOf w m).length := by simp at h1; exact List.length_pos_iff.2 h1
  have m1 := Int.emod_nonneg s (show ((actsOf w m).length : Int) ≠ 0 by omega)
  have m2 := Int.emod_lt_of_pos s (show (0 : Int) < (actsOf w m).length by omega)
  have el : (((actsOf w m).map encAc).length : Int) = (actsOf w m).length := by rw [List.length_map]
  obtain ⟨a, ha⟩ : ∃ a, (actsOf w m)[(s % ((actsOf w m).length : Int)).toNat]? = some a := ⟨_, List.getElem?_eq_getElem (by omega)⟩
  have haa := List.mem_of_getElem? ha
  (conv => whnf)
  rw [el]
  refine call_i (mk_Round s (actsOf w m).length (by omega) (by omega)) ?_
  (conv => whnf)
  refine idx_and m1 ha ?_
  (conv => whnf)
  refine call_i (task_Apply w m a hm) ?_
  (conv => whnf)
  have hap := mem_acts.1 haa
  obtain ⟨_, hcan⟩ := apply_facts hap
  obtain ⟨i, u1, u2, u3, u4, u5⟩ := undo_facts hv hcan
  have hvy := valid_set hv hcan
  have e1 : applyM w m a = setAt m a := by rw [applyM, if_pos hap]
  rw [e1, hap]
  have hyl := setAt_len m a
  have e2 : applyM w (setAt m a) (undo a) = m := by rw [applyM, if_pos u4, u5]
  obtain ⟨cf, _, ck⟩ := can_facts hcan
  have hkd : a.kind = 1 ∨ a.kind = 2 := by rcases canK_kind ck with h | h; exact .inl h.1; exact .inr h.1
  have hil := (List.getElem?_eq_some_iff.1 u1).1
  have hdiff : ∀ (k : Nat) (p q : Int), m[k]? = some p → (setAt m a)[k]? = some q → (p ≠ q ↔ k = i) := by
    intro k p q hp hq
    rw [u2] at hq
    by_cases e : k = i
    · subst e
      rw [List.getElem?_set_self hil] at hq
      simp only [Option.some.injEq] at hq
      refine ⟨fun _ => rfl, fun _ e => u3 (hq ▸ e ▸ List.mem_of_getElem? hp)⟩
    · rw [List.getElem?_set_ne (by omega), hp] at hq
      simp only [Option.some.injEq] at hq
      exact ⟨fun h => absurd hq h, fun h => absurd h e⟩
  generalize setAt m a = y at *
  (conv => whnf)
  refine call_i (ref_ValidMode w y hm) ?_
  (conv => whnf)
  rw [valid_iff.2 hvy]
  (conv => whnf)
  refine loop_intro (fun k : Nat => ⟨[(7, .one (.vptr 0 0)), (8, .one (.vptr 1 0)), (10, .one (.vptr 2 0)), (11, .one (.vptr 3 0)), (13, I (if k ≤ i then 0 else 1)), (14, I k)], [(0, bWk w), (1, bMd m), (2, bAc a), (3, bMd y)], 4⟩) (fun k => k ≤ m.length) (fun k => m.length - k) [] 0 [] (Nat.zero_le _) ⟨⟨rfl, rfl, rfl, rfl, eqI (by rw [if_pos (by omega)]), rfl, trivial⟩, ⟨rfl, rfl, rfl, rfl, trivial⟩⟩ ?_
  rintro k hk
  have hkk : IntKind.i64.wrap ((k : Int) + 1) = ((k + 1 : Nat) : Int) := by rw [w64] <;> omega
  (conv => whnf)
  refine ask_m (fun h2 => ?_) (fun h2 => ?_)
  · have hlt : k < m.length := by have := of_decide_eq_true h2; simp only [List.length_map] at this; omega
    obtain ⟨p, hp⟩ : ∃ j, m[k]? = some j := ⟨_, List.getElem?_eq_getElem hlt⟩
    obtain ⟨q, hq⟩ : ∃ j, y[k]? = some j := ⟨_, List.getElem?_eq_getElem (by omega)⟩
    have hd := hdiff k p q hp hq
    (conv => whnf)
    refine idx_and (by omega) (by simpa using hp) ?_
    (conv => whnf)
    refine idx_and (by omega) (by simpa using hq) ?_
    (conv => whnf)
    refine ask_m (fun h3 => ?_) (fun h3 => ?_)
    · have h3 : p ≠ q := by simpa using h3
      have hki := hd.1 h3
      have e3 : IntKind.i64.wrap ((if k ≤ i then (0 : Int) else 1) + 1) = if k + 1 ≤ i then 0 else 1 := by
        rw [if_pos (by omega), if_neg (by omega)]; decide
      (conv => whnf)
      exact ⟨k + 1, [], hlt, by omega, ⟨⟨rfl, rfl, rfl, rfl, eqI e3, eqI hkk, trivial⟩, ⟨rfl, rfl, rfl, rfl, trivial⟩⟩⟩
    · have h3 : ¬ p ≠ q := by simpa using h3
      have hki : ¬ k = i := fun e => h3 (hd.2 e)
      have e3 : (if k ≤ i then (0 : Int) else 1) = if k + 1 ≤ i then 0 else 1 := by
        by_cases h : k ≤ i
        · rw [if_pos h, if_pos (by omega)]
        · rw [if_neg h, if_neg (by omega)]
      (conv => whnf)
      exact ⟨k + 1, [], hlt, by omega, ⟨⟨rfl, rfl, rfl, rfl, eqI e3, eqI hkk, trivial⟩, ⟨rfl, rfl, rfl, rfl, trivial⟩⟩⟩
  · have hke : k = m.length := by have := of_decide_eq_false h2; simp only [List.length_map] at this; omega
    subst hke
    have e3 : IntKind.i64.wrap (3 - a.kind) = 3 - a.kind := by rw [w64] <;> omega
    rw [if_neg (by omega)]
    (conv => whnf)
    rw [e3]
    refine call_i (task_Apply w y (undo a) hm) ?_
    (conv => whnf)
    rw [e2, u4]
    refine call_i (law38_awake) ?_
    (conv => whnf)
    refine call_i (mk_Same_int m m (by omega) (by omega)) ?_
    (conv => whnf)
    (conv => whnf)
    refine ret0 ?_
    exact ret_b (by simp) rfl
end Go.Proofs.Ytopcjmipldkijaa

