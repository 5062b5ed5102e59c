import Derived.Test.YtejjkajknmhplaaX9
namespace Go.Proofs.Ytejjkajknmhplaa
open Eng
set_option maxRecDepth 10000
attribute [local irreducible] FnOk loopW idxF retX

def kindAt (x : List Int) (k : Nat) : Int := if lv x k < lv x (k + 1 : Nat) then 1 else if lv x (k + 1 : Nat) < lv x k then 2 else 0
def phStep (l : List Phase) (i : Nat) (kd : Int) : List Phase := match l[l.length - 1]? with
  | some p => if p.kind = kd then l.set (l.length - 1) ⟨p.kind, p.lo, (i + 1 : Nat)⟩ else l ++ [⟨kd, i, (i + 1 : Nat)⟩]
  | none => l ++ [⟨kd, i, (i + 1 : Nat)⟩]
def phTo (x : List Int) : Nat → List Phase
  | 0 => []
  | k + 1 => phStep (phTo x k) k (kindAt x k)
def phases (x : List Int) : List Phase := phTo x (x.length - 1)
theorem phTo_len (x : List Int) (k : Nat) : (phTo x k).length ≤ k := by
  induction k with
  | zero => simp [phTo]
  | succ k ih =>
    simp only [phTo, phStep]
    split
    · split <;> simp <;> omega
    · simp; omega
theorem set_encP {l : List Phase} {i : Nat} {a b c : Int} : (l.map encP).set i [.int .i64 a, .int .i64 b, .int .i64 c] = (l.set i ⟨a, b, c⟩).map encP := by
  rw [List.map_set]; rfl
theorem lv_at {x : List Int} {k : Nat} {v : Int} (h : x[k]? = some v) : lv x k = v := by
  simp [lv, List.getD_eq_getElem?_getD, h]
theorem f24_ok (x : List Int) (hl : x.length ≤ 1099511627776) : FnOk Try.prog 24 [Li x] [] 0 (.one (.row 0)) [(0, .rows 46 3 ((phases x).map encP))] 1 := by
  refine fnOk tab mix Try.func24 rfl rfl (by kernel_rfl) rfl rfl ?_
  (conv => whnf)
  have hn : max (IntKind.i64.wrap (((x.map encI).length : Int) - 1)) 0 = ((x.length - 1 : Nat) : Int) := by
    rw [w64] <;> simp <;> omega
  refine loop_intro (fun k : Nat => ⟨[(0, Li x), (3, .one (.row 0)), (10, I ((x.length - 1 : Nat) : Int)), (11, I k)], [(0, .rows 46 3 ((phTo x k).map encP))], 1⟩) (fun k => k ≤ x.length - 1) (fun k => x.length - 1 - k) [.own 3 46 3] 0 [] (Nat.zero_le _) ⟨⟨rfl, rfl, eqI hn, rfl, trivial⟩, ⟨rfl, trivial⟩⟩ ?_
  rintro k hk
  have hkk : IntKind.i64.wrap ((k : Int) + 1) = ((k + 1 : Nat) : Int) := by rw [w64] <;> omega
  have hlen := phTo_len x k
  have hl1 : IntKind.i64.wrap ((((phTo x k).map encP).length : Int) - 1) = ((phTo x k).length : Int) - 1 := by rw [w64] <;> simp <;> omega
  have hl2 : (((phTo x k).length : Int) - 1).toNat = (phTo x k).length - 1 := by omega
  (conv => whnf)
  refine ask_m (fun h => ?_) (fun h => ?_)
  · have hlt : k < x.length - 1 := by simp at h; omega
    obtain ⟨p, hp⟩ : ∃ v, x[k]? = some v := ⟨_, List.getElem?_eq_getElem (by omega)⟩
    obtain ⟨q, hq⟩ : ∃ v, x[k + 1]? = some v := ⟨_, List.getElem?_eq_getElem (by omega)⟩
    have hlp := lv_at hp
    have hlq := lv_at hq
    (conv => whnf)
    rw [hkk]
    refine idx_and (by omega) (by simpa using hq) ?_
    (conv => whnf)
    refine idx_and (by omega) (by simpa using hp) ?_
    (conv => whnf)
    refine ask_m (fun hpq => ?_) (fun hpq => ?_)
    · have hpq : p < q := by simpa using hpq
      have hkd : kindAt x k = 1 := by unfold kindAt; rw [hlp, hlq]; rw [if_pos hpq]
      have hst : phTo x (k + 1) = phStep (phTo x k) k 1 := by simp only [phTo, hkd]
      (conv => whnf)
      refine ask_m (fun h => ?_) (fun h => ?_)
      · have hne : 0 < (phTo x k).length := by
          rw [hl1] at h; simp at h; omega
        obtain ⟨ph, hph⟩ : ∃ v, (phTo x k)[(phTo x k).length - 1]? = some v := ⟨_, List.getElem?_eq_getElem (by omega)⟩
        (conv => whnf)
        try rw [hl1]
        refine ⟨⟨by omega, by simp; omega⟩, ?_⟩
        (conv => whnf)
        try rw [hl2]
        refine idx_map hph ?_
        (conv => whnf)
        refine ask_m (fun h => ?_) (fun h => ?_)
        · have hkq : ph.kind = 1 := by simpa using h
          (conv => whnf)
          try rw [hl1]
          refine ⟨⟨by omega, by simp; omega⟩, ?_⟩
          (conv => whnf)
          try rw [hl2]
          refine idx_map hph ?_
          (conv => whnf)
          refine ⟨k + 1, [], by omega, by omega, ⟨⟨rfl, rfl, rfl, eqI hkk, trivial⟩, ⟨?_, trivial⟩⟩⟩
          rw [hst, phStep, hph]
          simp only [hkq, if_true]
          rw [← set_encP, hkk, ← hkq]
          rfl
        · have hkq : ¬ ph.kind = 1 := by simpa using h
          (conv => whnf)
          refine ⟨⟨by simp; omega, by simp; omega⟩, ?_⟩
          (conv => whnf)
          refine ⟨k + 1, [(0, 2)], by omega, by omega, ⟨⟨rfl, rfl, rfl, eqI hkk, trivial⟩, ⟨?_, trivial⟩⟩⟩
          rw [hst, phStep, hph]
          simp only [if_neg hkq, List.map_append]
          rw [hkk]
          rfl
      · have hne : (phTo x k).length = 0 := by
          rw [hl1] at h; simp at h; omega
        (conv => whnf)
        refine ⟨⟨by simp; omega, by simp; omega⟩, ?_⟩
        (conv => whnf)
        refine ⟨k + 1, [(0, 2)], by omega, by omega, ⟨⟨rfl, rfl, rfl, eqI hkk, trivial⟩, ⟨?_, trivial⟩⟩⟩
        have hnil : phTo x k = [] := List.length_eq_zero_iff.1 hne
        rw [hst, phStep, hnil, hkk]
        rfl
    · have hpq : ¬ p < q := by simpa using hpq
      (conv => whnf)
      rw [hkk]
      refine idx_and (by omega) (by simpa using hq) ?_
      (conv => whnf)
      refine idx_and (by omega) (by simpa using hp) ?_
      (conv => whnf)
      refine ask_m (fun hqp => ?_) (fun hqp => ?_)
      · have hqp : q < p := by simpa using hqp
        have hkd : kindAt x k = 2 := by unfold kindAt; rw [hlp, hlq]; rw [if_neg hpq, if_pos hqp]
        have hst : phTo x (k + 1) = phStep (phTo x k) k 2 := by simp only [phTo, hkd]
        (conv => whnf)
        refine ask_m (fun h => ?_) (fun h => ?_)
        · have hne : 0 < (phTo x k).length := by
            rw [hl1] at h; simp at h; omega
          obtain ⟨ph, hph⟩ : ∃ v, (phTo x k)[(phTo x k).length - 1]? = some v := ⟨_, List.getElem?_eq_getElem (by omega)⟩
          (conv => whnf)
          try rw [hl1]
          refine ⟨⟨by omega, by simp; omega⟩, ?_⟩
          (conv => whnf)
          try rw [hl2]
          refine idx_map hph ?_
          (conv => whnf)
          refine ask_m (fun h => ?_) (fun h => ?_)
          · have hkq : ph.kind = 2 := by simpa using h
            (conv => whnf)
            try rw [hl1]
            refine ⟨⟨by omega, by simp; omega⟩, ?_⟩
            (conv => whnf)
            try rw [hl2]
            refine idx_map hph ?_
            (conv => whnf)
            refine ⟨k + 1, [], by omega, by omega, ⟨⟨rfl, rfl, rfl, eqI hkk, trivial⟩, ⟨?_, trivial⟩⟩⟩
            rw [hst, phStep, hph]
            simp only [hkq, if_true]
            rw [← set_encP, hkk, ← hkq]
            rfl
          · have hkq : ¬ ph.kind = 2 := by simpa using h
            (conv => whnf)
            refine ⟨⟨by simp; omega, by simp; omega⟩, ?_⟩
            (conv => whnf)
            refine ⟨k + 1, [(0, 2)], by omega, by omega, ⟨⟨rfl, rfl, rfl, eqI hkk, trivial⟩, ⟨?_, trivial⟩⟩⟩
            rw [hst, phStep, hph]
            simp only [if_neg hkq, List.map_append]
            rw [hkk]
            rfl
        · have hne : (phTo x k).length = 0 := by
            rw [hl1] at h; simp at h; omega
          (conv => whnf)
          refine ⟨⟨by simp; omega, by simp; omega⟩, ?_⟩
          (conv => whnf)
          refine ⟨k + 1, [(0, 2)], by omega, by omega, ⟨⟨rfl, rfl, rfl, eqI hkk, trivial⟩, ⟨?_, trivial⟩⟩⟩
          have hnil : phTo x k = [] := List.length_eq_zero_iff.1 hne
          rw [hst, phStep, hnil, hkk]
          rfl
      · have hqp : ¬ q < p := by simpa using hqp
        have hkd : kindAt x k = 0 := by unfold kindAt; rw [hlp, hlq]; rw [if_neg hpq, if_neg hqp]
        have hst : phTo x (k + 1) = phStep (phTo x k) k 0 := by simp only [phTo, hkd]
        (conv => whnf)
        refine ask_m (fun h => ?_) (fun h => ?_)
        · have hne : 0 < (phTo x k).length := by
            rw [hl1] at h; simp at h; omega
          obtain ⟨ph, hph⟩ : ∃ v, (phTo x k)[(phTo x k).length - 1]? = some v := ⟨_, List.getElem?_eq_getElem (by omega)⟩
          (conv => whnf)
          try rw [hl1]
          refine ⟨⟨by omega, by simp; omega⟩, ?_⟩
          (conv => whnf)
          try rw [hl2]
          refine idx_map hph ?_
          (conv => whnf)
          refine ask_m (fun h => ?_) (fun h => ?_)
          · have hkq : ph.kind = 0 := by simpa using h
            (conv => whnf)
            try rw [hl1]
            refine ⟨⟨by omega, by simp; omega⟩, ?_⟩
            (conv => whnf)
            try rw [hl2]
            refine idx_map hph ?_
            (conv => whnf)
            refine ⟨k + 1, [], by omega, by omega, ⟨⟨rfl, rfl, rfl, eqI hkk, trivial⟩, ⟨?_, trivial⟩⟩⟩
            rw [hst, phStep, hph]
            simp only [hkq, if_true]
            rw [← set_encP, hkk, ← hkq]
            rfl
          · have hkq : ¬ ph.kind = 0 := by simpa using h
            (conv => whnf)
            refine ⟨⟨by simp; omega, by simp; omega⟩, ?_⟩
            (conv => whnf)
            refine ⟨k + 1, [(0, 2)], by omega, by omega, ⟨⟨rfl, rfl, rfl, eqI hkk, trivial⟩, ⟨?_, trivial⟩⟩⟩
            rw [hst, phStep, hph]
            simp only [if_neg hkq, List.map_append]
            rw [hkk]
            rfl
        · have hne : (phTo x k).length = 0 := by
            rw [hl1] at h; simp at h; omega
          (conv => whnf)
          refine ⟨⟨by simp; omega, by simp; omega⟩, ?_⟩
          (conv => whnf)
          refine ⟨k + 1, [(0, 2)], by omega, by omega, ⟨⟨rfl, rfl, rfl, eqI hkk, trivial⟩, ⟨?_, trivial⟩⟩⟩
          have hnil : phTo x k = [] := List.length_eq_zero_iff.1 hne
          rw [hst, phStep, hnil, hkk]
          rfl
  · have hk : k = x.length - 1 := by simp at h; omega
    subst hk
    (conv => whnf)
    refine ret0 ?_
    exact ⟨[], ⟨rfl, trivial⟩, ⟨rfl, trivial⟩⟩
theorem f27_ok (x : List Int) (hl : x.length ≤ 1099511627776) : FnOk Try.prog 27 [Li x] [] 0 (.one (.row 0)) [(0, .rows 46 3 ((phases x).map encP))] 1 := by
  refine fnOk tab mix Try.func27 rfl rfl (by kernel_rfl) rfl rfl ?_
  (conv => whnf)
  refine loop_intro (fun k : Nat => ⟨[(0, Li x), (3, .one (.row 0)), (4, I k)], [(0, .rows 46 3 ((phTo x k).map encP))], 1⟩) (fun k => k ≤ x.length - 1) (fun k => x.length - 1 - k) [.own 3 46 3] 0 [] (Nat.zero_le _) ⟨⟨rfl, rfl, rfl, trivial⟩, ⟨rfl, trivial⟩⟩ ?_
  rintro k hk
  have hkk : IntKind.i64.wrap ((k : Int) + 1) = ((k + 1 : Nat) : Int) := by rw [w64] <;> omega
  have hlen := phTo_len x k
  have hl1 : IntKind.i64.wrap ((((phTo x k).map encP).length : Int) - 1) = ((phTo x k).length : Int) - 1 := by rw [w64] <;> simp <;> omega
  have hl2 : (((phTo x k).length : Int) - 1).toNat = (phTo x k).length - 1 := by omega
  (conv => whnf)
  rw [hkk]
  refine ask_m (fun h => ?_) (fun h => ?_)
  · have hlt : k < x.length - 1 := by simp at h; omega
    obtain ⟨p, hp⟩ : ∃ v, x[k]? = some v := ⟨_, List.getElem?_eq_getElem (by omega)⟩
    obtain ⟨q, hq⟩ : ∃ v, x[k + 1]? = some v := ⟨_, List.getElem?_eq_getElem (by omega)⟩
    have hlp := lv_at hp
    have hlq := lv_at hq
    (conv => whnf)
    rw [hkk]
    refine idx_and (by omega) (by simpa using hq) ?_
    (conv => whnf)
    refine idx_and (by omega) (by simpa using hp) ?_
    (conv => whnf)
    refine ask_m (fun hpq => ?_) (fun hpq => ?_)
    · have hpq : p < q := by simpa using hpq
      (conv => whnf)
      rw [hkk]
      refine idx_and (by omega) (by simpa using hq) ?_
      (conv => whnf)
      refine idx_and (by omega) (by simpa using hp) ?_
      (conv => whnf)
      refine ask_mf (by simp; omega) ?_
      have hkd : kindAt x k = 1 := by unfold kindAt; rw [hlp, hlq]; rw [if_pos hpq]
      have hst : phTo x (k + 1) = phStep (phTo x k) k 1 := by simp only [phTo, hkd]
      (conv => whnf)
      refine ask_m (fun h => ?_) (fun h => ?_)
      · have hne : 0 < (phTo x k).length := by
          have h := of_decide_eq_true h; simp only [List.length_map] at h; omega
        obtain ⟨ph, hph⟩ : ∃ v, (phTo x k)[(phTo x k).length - 1]? = some v := ⟨_, List.getElem?_eq_getElem (by omega)⟩
        (conv => whnf)
        try rw [hl1]
        refine ⟨⟨by omega, by simp; omega⟩, ?_⟩
        (conv => whnf)
        try rw [hl2]
        refine idx_map hph ?_
        (conv => whnf)
        refine ask_m (fun h => ?_) (fun h => ?_)
        · have hkq : ph.kind = 1 := by simpa using h
          (conv => whnf)
          try rw [hl1]
          refine ⟨⟨by omega, by simp; omega⟩, ?_⟩
          (conv => whnf)
          try rw [hl2]
          refine idx_map hph ?_
          (conv => whnf)
          refine ⟨k + 1, [], by omega, by omega, ⟨⟨rfl, rfl, eqI hkk, trivial⟩, ⟨?_, trivial⟩⟩⟩
          rw [hst, phStep, hph]
          simp only [hkq, if_true]
          rw [← set_encP, hkk, ← hkq]
          rfl
        · have hkq : ¬ ph.kind = 1 := by simpa using h
          (conv => whnf)
          refine ⟨⟨by simp; omega, by simp; omega⟩, ?_⟩
          (conv => whnf)
          refine ⟨k + 1, [(0, 2)], by omega, by omega, ⟨⟨rfl, rfl, eqI hkk, trivial⟩, ⟨?_, trivial⟩⟩⟩
          rw [hst, phStep, hph]
          simp only [if_neg hkq, List.map_append]
          rw [hkk]
          rfl
      · have hne : (phTo x k).length = 0 := by
          have h := of_decide_eq_false h; simp only [List.length_map] at h; omega
        (conv => whnf)
        refine ⟨⟨by simp; omega, by simp; omega⟩, ?_⟩
        (conv => whnf)
        refine ⟨k + 1, [(0, 2)], by omega, by omega, ⟨⟨rfl, rfl, eqI hkk, trivial⟩, ⟨?_, trivial⟩⟩⟩
        have hnil : phTo x k = [] := List.length_eq_zero_iff.1 hne
        rw [hst, phStep, hnil, hkk]
        rfl
    · have hpq : ¬ p < q := by simpa using hpq
      (conv => whnf)
      rw [hkk]
      refine idx_and (by omega) (by simpa using hq) ?_
      (conv => whnf)
      refine idx_and (by omega) (by simpa using hp) ?_
      (conv => whnf)
      refine ask_m (fun hqp => ?_) (fun hqp => ?_)
      · have hqp : q < p := by simpa using hqp
        have hkd : kindAt x k = 2 := by unfold kindAt; rw [hlp, hlq]; rw [if_neg hpq, if_pos hqp]
        have hst : phTo x (k + 1) = phStep (phTo x k) k 2 := by simp only [phTo, hkd]
        (conv => whnf)
        refine ask_m (fun h => ?_) (fun h => ?_)
        · have hne : 0 < (phTo x k).length := by
            have h := of_decide_eq_true h; simp only [List.length_map] at h; omega
          obtain ⟨ph, hph⟩ : ∃ v, (phTo x k)[(phTo x k).length - 1]? = some v := ⟨_, List.getElem?_eq_getElem (by omega)⟩
          (conv => whnf)
          try rw [hl1]
          refine ⟨⟨by omega, by simp; omega⟩, ?_⟩
          (conv => whnf)
          try rw [hl2]
          refine idx_map hph ?_
          (conv => whnf)
          refine ask_m (fun h => ?_) (fun h => ?_)
          · have hkq : ph.kind = 2 := by simpa using h
            (conv => whnf)
            try rw [hl1]
            refine ⟨⟨by omega, by simp; omega⟩, ?_⟩
            (conv => whnf)
            try rw [hl2]
            refine idx_map hph ?_
            (conv => whnf)
            refine ⟨k + 1, [], by omega, by omega, ⟨⟨rfl, rfl, eqI hkk, trivial⟩, ⟨?_, trivial⟩⟩⟩
            rw [hst, phStep, hph]
            simp only [hkq, if_true]
            rw [← set_encP, hkk, ← hkq]
            rfl
          · have hkq : ¬ ph.kind = 2 := by simpa using h
            (conv => whnf)
            refine ⟨⟨by simp; omega, by simp; omega⟩, ?_⟩
            (conv => whnf)
            refine ⟨k + 1, [(0, 2)], by omega, by omega, ⟨⟨rfl, rfl, eqI hkk, trivial⟩, ⟨?_, trivial⟩⟩⟩
            rw [hst, phStep, hph]
            simp only [if_neg hkq, List.map_append]
            rw [hkk]
            rfl
        · have hne : (phTo x k).length = 0 := by
            have h := of_decide_eq_false h; simp only [List.length_map] at h; omega
          (conv => whnf)
          refine ⟨⟨by simp; omega, by simp; omega⟩, ?_⟩
          (conv => whnf)
          refine ⟨k + 1, [(0, 2)], by omega, by omega, ⟨⟨rfl, rfl, eqI hkk, trivial⟩, ⟨?_, trivial⟩⟩⟩
          have hnil : phTo x k = [] := List.length_eq_zero_iff.1 hne
          rw [hst, phStep, hnil, hkk]
          rfl
      · have hqp : ¬ q < p := by simpa using hqp
        have hkd : kindAt x k = 0 := by unfold kindAt; rw [hlp, hlq]; rw [if_neg hpq, if_neg hqp]
        have hst : phTo x (k + 1) = phStep (phTo x k) k 0 := by simp only [phTo, hkd]
        (conv => whnf)
        refine ask_m (fun h => ?_) (fun h => ?_)
        · have hne : 0 < (phTo x k).length := by
            have h := of_decide_eq_true h; simp only [List.length_map] at h; omega
          obtain ⟨ph, hph⟩ : ∃ v, (phTo x k)[(phTo x k).length - 1]? = some v := ⟨_, List.getElem?_eq_getElem (by omega)⟩
          (conv => whnf)
          try rw [hl1]
          refine ⟨⟨by omega, by simp; omega⟩, ?_⟩
          (conv => whnf)
          try rw [hl2]
          refine idx_map hph ?_
          (conv => whnf)
          refine ask_m (fun h => ?_) (fun h => ?_)
          · have hkq : ph.kind = 0 := by simpa using h
            (conv => whnf)
            try rw [hl1]
            refine ⟨⟨by omega, by simp; omega⟩, ?_⟩
            (conv => whnf)
            try rw [hl2]
            refine idx_map hph ?_
            (conv => whnf)
            refine ⟨k + 1, [], by omega, by omega, ⟨⟨rfl, rfl, eqI hkk, trivial⟩, ⟨?_, trivial⟩⟩⟩
            rw [hst, phStep, hph]
            simp only [hkq, if_true]
            rw [← set_encP, hkk, ← hkq]
            rfl
          · have hkq : ¬ ph.kind = 0 := by simpa using h
            (conv => whnf)
            refine ⟨⟨by simp; omega, by simp; omega⟩, ?_⟩
            (conv => whnf)
            refine ⟨k + 1, [(0, 2)], by omega, by omega, ⟨⟨rfl, rfl, eqI hkk, trivial⟩, ⟨?_, trivial⟩⟩⟩
            rw [hst, phStep, hph]
            simp only [if_neg hkq, List.map_append]
            rw [hkk]
            rfl
        · have hne : (phTo x k).length = 0 := by
            have h := of_decide_eq_false h; simp only [List.length_map] at h; omega
          (conv => whnf)
          refine ⟨⟨by simp; omega, by simp; omega⟩, ?_⟩
          (conv => whnf)
          refine ⟨k + 1, [(0, 2)], by omega, by omega, ⟨⟨rfl, rfl, eqI hkk, trivial⟩, ⟨?_, trivial⟩⟩⟩
          have hnil : phTo x k = [] := List.length_eq_zero_iff.1 hne
          rw [hst, phStep, hnil, hkk]
          rfl
  · have hk : k = x.length - 1 := by simp at h; omega
    subst hk
    (conv => whnf)
    refine ret0 ?_
    exact ⟨[], ⟨rfl, trivial⟩, ⟨rfl, trivial⟩⟩
end Go.Proofs.Ytejjkajknmhplaa
