/- Robots: the chains of joints, and which links carry which. No program in sight. -/
import Derived.Test.YtgakendcmakndaaCo7
namespace Go.Proofs.Ytgakendcmakndaa
open Eng
set_option maxRecDepth 10000

def chainN (js : List Joint) : Nat → Int → List Int
  | 0, _ => []
  | f + 1, k => if k < 0 then [] else match js[k.toNat]? with
    | none => []
    | some j => chainN js f j.parent ++ [k]
/-- the joints from the world to a link -/
def chain (js : List Joint) (k : Int) : List Int := chainN js (k + 1).toNat k
theorem chainN_neg (js : List Joint) {f : Nat} {k : Int} (h : k < 0) : chainN js f k = [] := by
  cases f with
  | zero => rfl
  | succ f => rw [chainN, if_pos h]
theorem chainN_fuel {js : List Joint} (hd : downOk js) : ∀ (f g : Nat) (k : Int), (k + 1).toNat ≤ f → (k + 1).toNat ≤ g → chainN js f k = chainN js g k
  | 0, g, k, h1, _ => by rw [chainN_neg js (by omega), chainN_neg js (by omega)]
  | f + 1, 0, k, _, h2 => by rw [chainN_neg js (by omega), chainN_neg js (by omega)]
  | f + 1, g + 1, k, h1, h2 => by
    rw [chainN, chainN]
    split
    · rfl
    · cases hj : js[k.toNat]? with
      | none => rfl
      | some j =>
        have := hd _ j hj
        simp only
        rw [chainN_fuel hd f g j.parent (by omega) (by omega)]
theorem chain_neg (js : List Joint) {k : Int} (h : k < 0) : chain js k = [] := chainN_neg js h
theorem chain_step {js : List Joint} (hd : downOk js) {k : Nat} {j : Joint} (hj : js[k]? = some j) : chain js k = chain js j.parent ++ [(k : Int)] := by
  have := hd k j hj
  rw [chain, show ((k : Int) + 1).toNat = k + 1 by omega, chainN, if_neg (by omega), Int.toNat_natCast, hj]
  simp only
  rw [chain, chainN_fuel hd k (j.parent + 1).toNat j.parent (by omega) (Nat.le_refl _)]
theorem link_ind {js : List Joint} (hd : downOk js) {C : Int → Prop} (h0 : C (-1)) (hs : ∀ (k : Nat) (j : Joint), js[k]? = some j → C j.parent → C k) : ∀ (k : Int), -1 ≤ k → k < js.length → C k := by
  have : ∀ (n : Nat) (k : Int), (k + 1).toNat ≤ n → -1 ≤ k → k < js.length → C k := by
    intro n
    induction n with
    | zero =>
      intro k h1 h2 _
      have : k = -1 := by omega
      subst this; exact h0
    | succ n ih =>
      intro k h1 h2 h3
      by_cases hk : k = -1
      · subst hk; exact h0
      · obtain ⟨m, rfl⟩ : ∃ m : Nat, k = m := ⟨k.toNat, by omega⟩
        obtain ⟨j, hj⟩ : ∃ j, js[m]? = some j := ⟨_, List.getElem?_eq_getElem (by omega)⟩
        have := hd m j hj
        exact hs m j hj (ih j.parent (by omega) (by omega) (by omega))
  intro k h1 h2
  exact this _ k (Nat.le_refl _) h1 h2
theorem chain_in {js : List Joint} (hd : downOk js) : ∀ (k : Int), -1 ≤ k → k < js.length → (∀ x ∈ chain js k, 0 ≤ x ∧ x ≤ k) ∧ (chain js k).Nodup ∧ (chain js k).length ≤ (k + 1).toNat := by
  refine link_ind hd ?_ ?_
  · rw [chain_neg js (by omega)]; simp
  · intro k j hj ⟨h1, h2, h3⟩
    have hp := hd k j hj
    rw [chain_step hd hj]
    refine ⟨fun x hx => ?_, ?_, ?_⟩
    · rcases List.mem_append.1 hx with hx | hx
      · have := h1 x hx; omega
      · simp only [List.mem_singleton] at hx; omega
    · rw [List.nodup_append]
      refine ⟨h2, by simp, fun x hx y hy => ?_⟩
      simp only [List.mem_singleton] at hy
      have := h1 x hx
      omega
    · rw [List.length_append]; simp; omega

/- carriers -/
def car (js : List Joint) (k : Int) : Int := (carriers js).getD (k + 1).toNat 0
theorem car_prefix (js : List Joint) (acc : List Int) : ∃ rest, js.foldl carStep acc = acc ++ rest := by
  induction js generalizing acc with
  | nil => exact ⟨[], by simp⟩
  | cons j js ih =>
    obtain ⟨rest, h⟩ := ih (carStep acc j)
    exact ⟨_, by rw [List.foldl_cons, h, carStep, List.append_assoc]⟩
theorem car_split (js : List Joint) (k : Nat) : ∃ rest, carriers js = carriers (js.take k) ++ rest := by
  obtain ⟨rest, h⟩ := car_prefix (js.drop k) (carriers (js.take k))
  refine ⟨rest, ?_⟩
  rw [← h, carriers, carriers, ← List.foldl_append, List.take_append_drop]
theorem car_world (js : List Joint) : car js (-1) = -1 := by
  obtain ⟨rest, h⟩ := car_split js 0
  rw [car, h]
  simp [carriers]
theorem car_step {js : List Joint} (hd : downOk js) {k : Nat} {j : Joint} (hj : js[k]? = some j) : car js k = if j.lo = j.hi then car js j.parent else k := by
  have hp := hd k j hj
  have hk : k < js.length := (List.getElem?_eq_some_iff.1 hj).1
  obtain ⟨r1, h1⟩ := car_split js (k + 1)
  have h2 := car_take hj
  have hl : (carriers (js.take k)).length = k + 1 := by rw [car_len, List.length_take]; omega
  rw [carStep, hl] at h2
  rw [h2] at h1
  have ha : (carriers js)[(k : Int).toNat + 1]? = some (if j.lo = j.hi then (carriers (js.take k)).getD (j.parent + 1).toNat 0 else ((k + 1 : Nat) : Int) - 1) := by
    rw [h1, List.append_assoc, List.getElem?_append_right (by omega)]
    simp [hl]
  have hb : (carriers js)[(j.parent + 1).toNat]? = (carriers (js.take k))[(j.parent + 1).toNat]? := by
    rw [h1, List.append_assoc, List.getElem?_append_left (by omega)]
  have hc : car js j.parent = (carriers (js.take k)).getD (j.parent + 1).toNat 0 := by
    rw [car, List.getD_eq_getElem?_getD, hb, List.getD_eq_getElem?_getD]
  rw [hc, car, List.getD_eq_getElem?_getD, show ((k : Int) + 1).toNat = (k : Int).toNat + 1 by omega, ha, Option.getD_some]
  split
  · rfl
  · omega
/-- the joint can move -/
def mov (js : List Joint) (x : Int) : Bool := match js[x.toNat]? with
  | some j => decide (j.lo ≠ j.hi)
  | none => false
theorem mov_at {js : List Joint} {k : Nat} {j : Joint} (hj : js[k]? = some j) : mov js k = decide (j.lo ≠ j.hi) := by
  rw [mov, Int.toNat_natCast, hj]
theorem car_chain {js : List Joint} (hd : downOk js) : ∀ (k : Int), -1 ≤ k → k < js.length →
    (∀ x, mov js x = true → (x ∈ chain js k ↔ x ∈ chain js (car js k))) ∧ (car js k = -1 ∨ (car js k ∈ chain js k ∧ mov js (car js k) = true)) ∧ (∀ x ∈ chain js k, mov js x = true → x ≤ car js k) := by
  refine link_ind hd ?_ ?_
  · rw [car_world]
    refine ⟨fun _ _ => Iff.rfl, .inl rfl, fun x hx => ?_⟩
    rw [chain_neg js (by omega)] at hx; cases hx
  · intro k j hj ⟨h1, h2, h3⟩
    rw [car_step hd hj]
    have hm := mov_at hj
    by_cases hs : j.lo = j.hi
    · rw [if_pos hs]
      have hm0 : mov js k = false := by rw [hm]; simp [hs]
      have hiff : ∀ x, mov js x = true → (x ∈ chain js k ↔ x ∈ chain js j.parent) := fun x hx => by
        rw [chain_step hd hj, List.mem_append, List.mem_singleton]
        constructor
        · rintro (h | h)
          · exact h
          · subst h; rw [hm0] at hx; cases hx
        · exact .inl
      refine ⟨fun x hx => (hiff x hx).trans (h1 x hx), ?_, fun x hx hmx => h3 x ((hiff x hmx).1 hx) hmx⟩
      rcases h2 with h2 | ⟨h2, h4⟩
      · exact .inl h2
      · exact .inr ⟨(hiff _ h4).2 h2, h4⟩
    · rw [if_neg hs]
      refine ⟨fun _ _ => Iff.rfl, .inr ⟨?_, by rw [hm]; simp [hs]⟩, fun x hx _ => ?_⟩
      · rw [chain_step hd hj]; simp
      · have hk : k < js.length := (List.getElem?_eq_some_iff.1 hj).1
        exact ((chain_in hd k (by omega) (by omega)).1 x hx).2
/-- the joints of exactly one of two chains -/
def btw (js : List Joint) (a b : Int) : List Nat := (List.range 10).filter fun i => decide ((chain js a).count (i : Int) + (chain js b).count (i : Int) = 1)
def rigid (js : List Joint) (a b : Int) : Bool := !(btw js a b).any fun i => mov js i
theorem count_in {l : List Int} (h : l.Nodup) (x : Int) : l.count x = if x ∈ l then 1 else 0 := by
  split
  · rename_i hx
    have h1 := List.nodup_iff_count.1 h x
    have h2 := List.count_pos_iff.2 hx
    omega
  · rename_i hx; exact List.count_eq_zero.2 hx
theorem rigid_iff {js : List Joint} (hl : js.length ≤ 10) (hd : downOk js) {a b : Int} (ha : -1 ≤ a) (ha' : a < js.length) (hb : -1 ≤ b) (hb' : b < js.length) : rigid js a b = decide (car js a = car js b) := by
  obtain ⟨a1, a2, _⟩ := chain_in hd a ha ha'
  obtain ⟨b1, b2, _⟩ := chain_in hd b hb hb'
  obtain ⟨a4, a5, a6⟩ := car_chain hd a ha ha'
  obtain ⟨b4, b5, b6⟩ := car_chain hd b hb hb'
  have key : rigid js a b = true ↔ ∀ x, mov js x = true → (x ∈ chain js a ↔ x ∈ chain js b) := by
    simp only [rigid, Bool.not_eq_true', List.any_eq_false, btw, List.mem_filter, List.mem_range, decide_eq_true_eq, and_imp]
    constructor
    · intro h x hx
      by_cases hxa : x ∈ chain js a
      · by_cases hxb : x ∈ chain js b
        · exact ⟨fun _ => hxb, fun _ => hxa⟩
        · have := a1 x hxa
          refine absurd hx ?_
          have := h x.toNat (by omega) (by rw [show ((x.toNat : Nat) : Int) = x by omega, count_in a2, count_in b2, if_pos hxa, if_neg hxb])
          rwa [show ((x.toNat : Nat) : Int) = x by omega] at this
      · by_cases hxb : x ∈ chain js b
        · have := b1 x hxb
          refine absurd hx ?_
          have := h x.toNat (by omega) (by rw [show ((x.toNat : Nat) : Int) = x by omega, count_in a2, count_in b2, if_neg hxa, if_pos hxb])
          rwa [show ((x.toNat : Nat) : Int) = x by omega] at this
        · exact ⟨fun h => absurd h hxa, fun h => absurd h hxb⟩
    · intro h i _ hc hm
      have := h i hm
      rw [count_in a2, count_in b2] at hc
      by_cases hxa : (i : Int) ∈ chain js a
      · rw [if_pos hxa, if_pos (this.1 hxa)] at hc; omega
      · rw [if_neg hxa, if_neg (fun h => hxa (this.2 h))] at hc; omega
  have key2 : (∀ x, mov js x = true → (x ∈ chain js a ↔ x ∈ chain js b)) ↔ car js a = car js b := by
    constructor
    · intro h
      rcases a5 with a5 | ⟨a5, a7⟩
      · rcases b5 with b5 | ⟨b5, b7⟩
        · rw [a5, b5]
        · have h1 := (h _ b7).2 b5
          have h2 := a6 _ h1 b7
          have h3 := a1 _ h1
          omega
      · have h1 := b6 _ ((h _ a7).1 a5) a7
        have h3 := a1 _ a5
        rcases b5 with b5 | ⟨b5, b7⟩
        · omega
        · have h2 := a6 _ ((h _ b7).2 b5) b7
          omega
    · intro h x hx
      rw [a4 x hx, b4 x hx, h]
  rw [Bool.eq_iff_iff, key, key2, decide_eq_true_eq]
end Go.Proofs.Ytgakendcmakndaa
