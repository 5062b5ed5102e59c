/- A step hangs on its operands and on the boxes that they name alone. -/
import Derived.Test.YthdbdokhncaijaaGreatEngC4
namespace Eng
open Go Go.RowKit

def refsC : CV → List Nat
  | .vptr b _ => [b]
  | .row b => [b]
  | .rptr b _ _ => [b]
  | .rsl b _ => [b]
  | .rpx b _ => [b]
  | .avw b _ _ => [b]
  | .fn _ caps => caps.map (·.1)
  | _ => []
def refsS : SV → List Nat
  | .one c => refsC c
  | .agg cs => cs.flatMap refsC
  | .tup ts => ts.flatMap fun t => t.2.flatMap refsC
  | .bot => []
/-- the boxes that an operation may look into or turn -/
def footOf (o : Oper) (l : List (Nat × SV)) : List Nat :=
  match o.op with
  | .move _ => []
  | .assign _ => []
  | .pick _ _ _ => []
  | .binOp _ _ _ _ _ => []
  | .unOp _ _ _ => []
  | .extract _ _ => []
  | .alloc _ => []
  | .box _ _ => []
  | .build _ _ => []
  | .field _ _ _ => []
  | .convert _ _ _ => []
  | .index _ _ _ => []
  | .range _ _ => []
  | .makeFunc _ _ _ => []
  | op => op.operands.toList.flatMap fun x => refsS (ev l x)

variable {m m' : List (Nat × Box)}
theorem ldC_det {ti : TI} {ds : List CV} {k : SV → Prop} (h : ldC ti ds k) : ∃ v, k v ∧ ∀ k' : SV → Prop, k' v → ldC ti ds k' := by
  obtain ⟨v, h1, h2⟩ := ldC_ok h
  refine ⟨v, h1, fun k' hk' => ?_⟩
  have htk : ∀ (n : Nat) (ds : List CV) (k : List CV → Prop), n ≤ ds.length → k (ds.take n) → takeC n ds k := by
    intro n
    induction n with
    | zero => intro ds k _ hk; simpa [takeC] using hk
    | succ n ih => intro ds k hl hk; cases ds with
      | nil => simp at hl
      | cons d ds => exact ih ds _ (by simpa using hl) (by simpa using hk)
  unfold ldC
  rcases h2 with ⟨ha, rfl, hl⟩ | ⟨ha, c, rest, rfl, rfl⟩
  · rw [ha]; exact htk _ _ _ hl hk'
  · rw [ha]; exact hk'
theorem loc_load {ti : TI} {sx : SV} {K : SV → List Nat → Prop} (h : loadW m ti sx K) : ∃ v ft, K v ft ∧ ∀ (m' : List (Nat × Box)) (K' : SV → List Nat → Prop), (∀ b ∈ refsS sx, lkb m' b = lkb m b) → K' v ft → loadW m' ti sx K' := by
  have hD : ∀ {ds : List DV} {k : SV → Prop}, ldD ti ds k → ∃ v, k v ∧ ∀ k' : SV → Prop, k' v → ldD ti ds k' := by
    intro ds k h
    obtain ⟨v, h1, h2⟩ := ldD_ok h
    refine ⟨v, h1, fun k' hk' => ?_⟩
    have htk : ∀ (n : Nat) (ds : List DV) (k : List CV → Prop), n ≤ ds.length → k ((ds.map CV.dv).take n) → takeD n ds k := by
      intro n
      induction n with
      | zero => intro ds k _ hk; simpa [takeD] using hk
      | succ n ih => intro ds k hl hk; cases ds with
        | nil => simp at hl
        | cons d ds => exact ih ds _ (by simpa using hl) (by simpa using hk)
    unfold ldD
    rcases h2 with ⟨ha, rfl, hl⟩ | ⟨ha, c, rest, hc, rfl⟩
    · rw [ha]; exact htk _ _ _ (by simpa using hl) hk'
    · rw [ha]
      cases ds with
      | nil => cases hc
      | cons d ds => simp at hc; obtain ⟨rfl, _⟩ := hc; exact hk'
  have hC : ∀ {ds : List CV} {k : SV → Prop}, ldC ti ds k → ∃ v, k v ∧ ∀ k' : SV → Prop, k' v → ldC ti ds k' := by
    intro ds k h
    obtain ⟨v, h1, h2⟩ := ldC_ok h
    refine ⟨v, h1, fun k' hk' => ?_⟩
    have htk : ∀ (n : Nat) (ds : List CV) (k : List CV → Prop), n ≤ ds.length → k (ds.take n) → takeC n ds k := by
      intro n
      induction n with
      | zero => intro ds k _ hk; simpa [takeC] using hk
      | succ n ih => intro ds k hl hk; cases ds with
        | nil => simp at hl
        | cons d ds => exact ih ds _ (by simpa using hl) (by simpa using hk)
    unfold ldC
    rcases h2 with ⟨ha, rfl, hl⟩ | ⟨ha, c, rest, rfl, rfl⟩
    · rw [ha]; exact htk _ _ _ hl hk'
    · rw [ha]; exact hk'
  unfold loadW at h
  split at h
  · obtain ⟨v, h1, h2⟩ := hD h
    exact ⟨v, _, h1, fun m' K' _ hk' => h2 (fun v => K' v []) hk'⟩
  · rename_i b off
    split at h
    · rename_i tb cs hb
      obtain ⟨v, h1, h2⟩ := hC h
      refine ⟨v, _, h1, fun m' K' hm hk' => ?_⟩
      unfold loadW
      simp only
      rw [hm b (by simp [refsS, refsC]), hb]
      exact h2 _ hk'
    · exact h.elim
  · rename_i b i off
    split at h
    · rename_i tb sz rs hb
      obtain ⟨r, hr, h⟩ := h
      obtain ⟨v, h1, h2⟩ := hD h
      refine ⟨v, _, h1, fun m' K' hm hk' => ?_⟩
      unfold loadW
      simp only
      rw [hm b (by simp [refsS, refsC]), hb]
      exact ⟨r, hr, h2 _ hk'⟩
    · rename_i tb sz rs last hb
      obtain ⟨hi, h⟩ := h
      obtain ⟨v, h1, h2⟩ := hC h
      refine ⟨v, _, h1, fun m' K' hm hk' => ?_⟩
      unfold loadW
      simp only
      rw [hm b (by simp [refsS, refsC]), hb]
      exact ⟨hi, h2 _ hk'⟩
    · exact h.elim
  · exact h.elim

theorem putL_mk {α : Type} {old new : List α} {off : Nat} {k : List α → Prop} (hl : off + new.length ≤ old.length) (h : k (old.take off ++ new ++ old.drop (off + new.length))) : putL old off new k := by
  induction old generalizing off new k with
  | nil => cases off with
    | zero => cases new with
      | nil => simpa [putL] using h
      | cons v vs => simp at hl
    | succ off => simp at hl
  | cons c cs ih => cases off with
    | zero => cases new with
      | nil => simpa [putL] using h
      | cons v vs => exact ih (by simpa using hl) (by simpa using h)
    | succ off => exact ih (by simp at hl; omega) (by simpa [Nat.succ_add] using h)

theorem toDp_det {cs : List CV} {k : List DV → Prop} (h : toDp cs k) : ∃ ds, k ds ∧ ∀ k' : List DV → Prop, k' ds → toDp cs k' := by
  induction cs generalizing k with
  | nil => exact ⟨[], h, fun _ h => h⟩
  | cons c cs ih =>
    cases c with
    | dv d => obtain ⟨ds, h1, h2⟩ := ih h; exact ⟨_, h1, fun k' hk => h2 _ hk⟩
    | nil sz => obtain ⟨ds, h1, h2⟩ := ih h; exact ⟨_, h1, fun k' hk => h2 _ hk⟩
    | _ => exact h.elim

theorem loc_store {ti : TI} {sx : SV} {cs : List CV} {K : List (Nat × Box) → List Nat → Prop} (h : storeW m ti sx cs K) : ∃ v ft, K v ft ∧ ∀ (m' : List (Nat × Box)) (K' : List (Nat × Box) → List Nat → Prop), (∀ b ∈ refsS sx, lkb m' b = lkb m b) → (∀ b, CV.row b ∈ cs → lkb m' b = lkb m b) → K' v ft → storeW m' ti sx cs K' := by
  unfold storeW at h
  split at h
  · exact h.elim
  · rename_i hlen
    split at h
    · rename_i b off
      split at h
      · rename_i tb old hb
        obtain ⟨h1, h2⟩ := putL_ok h
        refine ⟨_, _, h1, fun m' K' hm _ hk' => ?_⟩
        unfold storeW
        rw [hlen]
        simp only
        rw [hm b (by simp [refsS, refsC]), hb]
        exact putL_mk h2 hk'
      · exact h.elim
    · rename_i b i off
      split at h
      · rename_i tb sz rs hb
        obtain ⟨ds, ks, h, _, _, _, _, hd, _⟩ := toDs_ok h
        split at h
        · obtain ⟨r, hr, h⟩ := h
          obtain ⟨h1, h2⟩ := putL_ok h
          refine ⟨_, _, h1, fun m' K' hm hc hk' => ?_⟩
          unfold storeW
          rw [hlen]
          simp only
          rw [hm b (by simp [refsS, refsC]), hb]
          exact hd m' _ hc ⟨r, hr, putL_mk h2 hk'⟩
        · rename_i k ks
          split at h
          · exact h.elim
          · rename_i hall
            obtain ⟨r, hr, h⟩ := h
            obtain ⟨h1, h2⟩ := putL_ok h
            refine ⟨_, _, h1, fun m' K' hm hc hk' => ?_⟩
            unfold storeW
            rw [hlen]
            simp only
            rw [hm b (by simp [refsS, refsC]), hb]
            refine hd m' _ hc ?_
            simp only
            rw [hall]
            exact ⟨r, hr, putL_mk h2 hk'⟩
      · rename_i tb sz rs last hb
        obtain ⟨hi, h⟩ := h
        obtain ⟨h1, h2⟩ := putL_ok h
        refine ⟨_, _, h1, fun m' K' hm _ hk' => ?_⟩
        unfold storeW
        rw [hlen]
        simp only
        rw [hm b (by simp [refsS, refsC]), hb]
        exact ⟨hi, putL_mk h2 hk'⟩
      · exact h.elim
    · exact h.elim

theorem loc_index {T : List (Nat × TI)} {ti : TI} {sx : SV} {i : Int} {K : SV → List Nat → Prop} (h : indexW T m ti sx i K) : ∃ v ft, K v ft ∧ ∀ (m' : List (Nat × Box)) (K' : SV → List Nat → Prop), (∀ b ∈ refsS sx, lkb m' b = lkb m b) → K' v ft → indexW T m' ti sx i K' := by
  unfold indexW at h
  split at h
  · rename_i c e hk
    split at h
    · exact h.elim
    · rename_i te hte
      split at h
      · exact h.elim
      · rename_i hsz
        split at h
        · refine ⟨_, _, h.2, fun m' K' hm hk' => ?_⟩
          unfold indexW
          rw [hk]; simp only
          rw [hte]; simp only
          rw [hsz]; exact ⟨h.1, hk'⟩
        · rename_i b o
          split at h
          · rename_i tb cs hb
            refine ⟨_, _, h.2, fun m' K' hm hk' => ?_⟩
            unfold indexW
            rw [hk]; simp only
            rw [hte]; simp only
            rw [hsz]; simp only
            rw [hm b (by simp [refsS, refsC]), hb]; exact ⟨h.1, hk'⟩
          · exact h.elim
        · rename_i b r o
          split at h
          · rename_i tb sz rs hb
            refine ⟨_, _, h.2, fun m' K' hm hk' => ?_⟩
            unfold indexW
            rw [hk]; simp only
            rw [hte]; simp only
            rw [hsz]; simp only
            rw [hm b (by simp [refsS, refsC]), hb]; exact ⟨h.1, hk'⟩
          · exact h.elim
        · exact h.elim
  · rename_i e hk
    split at h
    · exact h.elim
    · rename_i te hte
      split at h
      · split at h
        · exact h.elim
        · rename_i hsz
          obtain ⟨h0, r, hr, h⟩ := h
          refine ⟨_, _, h, fun m' K' hm hk' => ?_⟩
          unfold indexW
          rw [hk]; simp only
          rw [hte]; simp only
          rw [hsz]; exact ⟨h0, r, hr, hk'⟩
      · rename_i b
        split at h
        · rename_i tb sz rs hb
          split at h
          · exact h.elim
          · rename_i hsz
            refine ⟨_, _, h.2, fun m' K' hm hk' => ?_⟩
            unfold indexW
            rw [hk]; simp only
            rw [hte]; simp only
            rw [hm b (by simp [refsS, refsC]), hb]; simp only
            rw [hsz]; exact ⟨h.1, hk'⟩
        · rename_i tb sz rs last hb
          split at h
          · exact h.elim
          · rename_i hsz
            refine ⟨_, _, h.2, fun m' K' hm hk' => ?_⟩
            unfold indexW
            rw [hk]; simp only
            rw [hte]; simp only
            rw [hm b (by simp [refsS, refsC]), hb]; simp only
            rw [hsz]; exact ⟨h.1, hk'⟩
        · exact h.elim
      · exact h.elim
  · exact h.elim

theorem loc_field {T : List (Nat × TI)} {ti : TI} {f : Nat} {sx : SV} {K : SV → Prop} (h : fieldAtW T m ti f sx K) : ∃ v, K v ∧ ∀ (m' : List (Nat × Box)) (K' : SV → Prop), (∀ b ∈ refsS sx, lkb m' b = lkb m b) → K' v → fieldAtW T m' ti f sx K' := by
  unfold fieldAtW at h
  split at h
  · rename_i fs hk
    split at h
    · exact h.elim
    · rename_i off ft hf
      split at h
      · exact h.elim
      · rename_i te hte
        split at h
        · exact h.elim
        · rename_i hsz
          split at h
          · refine ⟨_, h, fun m' K' hm hk' => ?_⟩
            unfold fieldAtW
            rw [hk]; simp only
            rw [hf]; simp only
            rw [hte]; simp only
            rw [hsz]; exact hk'
          · rename_i b off
            split at h
            · rename_i tb cs hb
              refine ⟨_, h, fun m' K' hm hk' => ?_⟩
              unfold fieldAtW
              rw [hk]; simp only
              rw [hf]; simp only
              rw [hte]; simp only
              rw [hsz]; simp only
              rw [hm b (by simp [refsS, refsC]), hb]; exact hk'
            · exact h.elim
          · rename_i b i off
            split at h
            · rename_i tb sz rs hb
              refine ⟨_, h, fun m' K' hm hk' => ?_⟩
              unfold fieldAtW
              rw [hk]; simp only
              rw [hf]; simp only
              rw [hte]; simp only
              rw [hsz]; simp only
              rw [hm b (by simp [refsS, refsC]), hb]; exact hk'
            · rename_i tb sz rs last hb
              refine ⟨_, h, fun m' K' hm hk' => ?_⟩
              unfold fieldAtW
              rw [hk]; simp only
              rw [hf]; simp only
              rw [hte]; simp only
              rw [hsz]; simp only
              rw [hm b (by simp [refsS, refsC]), hb]; exact hk'
            · exact h.elim
          · exact h.elim
  · exact h.elim

theorem loc_len {ti : TI} {sx : SV} {K : Int → List Nat → Prop} (h : lenW m ti sx K) : ∃ v ft, K v ft ∧ ∀ (m' : List (Nat × Box)) (K' : Int → List Nat → Prop), (∀ b ∈ refsS sx, lkb m' b = lkb m b) → K' v ft → lenW m' ti sx K' := by
  unfold lenW at h
  split at h
  · rename_i e hk
    split at h
    · exact ⟨_, _, h, fun m' K' hm hk' => by unfold lenW; rw [hk]; exact hk'⟩
    · exact ⟨_, _, h, fun m' K' hm hk' => by unfold lenW; rw [hk]; exact hk'⟩
    · rename_i b
      split at h
      · rename_i tb sz rs hb
        refine ⟨_, _, h, fun m' K' hm hk' => ?_⟩
        unfold lenW; rw [hk]; simp only
        rw [hm b (by simp [refsS, refsC]), hb]; exact hk'
      · rename_i tb sz rs last hb
        refine ⟨_, _, h, fun m' K' hm hk' => ?_⟩
        unfold lenW; rw [hk]; simp only
        rw [hm b (by simp [refsS, refsC]), hb]; exact hk'
      · exact h.elim
    · exact h.elim
  · rename_i hk
    split at h
    · exact ⟨_, _, h, fun m' K' hm hk' => by unfold lenW; rw [hk]; exact hk'⟩
    · exact h.elim
  · rename_i k e hk
    exact ⟨_, _, h, fun m' K' hm hk' => by unfold lenW; rw [hk]; exact hk'⟩
  · exact h.elim

theorem bin_det {bt : Bool} {op : BinOp} {x y : DV} {K : DV → Prop} (h : binF bt op x y K) : ∃ d, K d ∧ ∀ K' : DV → Prop, K' d → binF bt op x y K' := by
  unfold binF at h ⊢
  split at h
  · split at h
    · revert h
      cases op <;> intro h <;> simp only at h ⊢ <;> first
        | exact ⟨_, h.2, fun K' hk' => ⟨h.1, hk'⟩⟩
        | (split at h
           · exact h.elim
           · first | exact h.elim | exact ⟨_, h.2, fun K' hk' => ⟨h.1, hk'⟩⟩ | exact ⟨_, h, fun K' hk' => hk'⟩)
    · exact h.elim
  · split at h
    · split at h <;> first | exact h.elim | exact ⟨_, h.2, fun K' hk' => ⟨h.1, hk'⟩⟩ | exact ⟨_, h, fun K' hk' => hk'⟩
    · exact h.elim
  · split at h
    · split at h
      · exact h.elim
      · split at h <;> first | exact h.elim | exact ⟨_, h, fun K' hk' => hk'⟩
    · exact h.elim
  · exact h.elim

theorem evT_congr {T : List (Nat × TI)} {ty : Nat} {l l' : List (Nat × SV)} {x : Operand} (h : ev l' x = ev l x) : evT T ty l' x = evT T ty l x := by
  unfold evT
  split
  · rfl
  · exact h

theorem loc_hand {b : Nat} {ps : List Nat} {k : Nat → List Nat → Prop} (h : handW m b ps k) : ∃ j ps', k j ps' ∧ (∀ x ∈ ps', x ∈ ps ∨ x = b) ∧ (∀ x ∈ ps, x ∈ ps') ∧ b ∈ ps' ∧ ∀ (m' : List (Nat × Box)) (k' : Nat → List Nat → Prop), lkb m' b = lkb m b → k' j ps' → handW m' b ps k' := by
  unfold handW at h
  split at h
  · exact h.elim
  · rename_i hl
    split at h
    · rename_i j hj
      have hb : b ∈ ps := List.mem_of_getElem? (idxOf_some hj).2
      refine ⟨_, _, h, fun x hx => .inl hx, fun x hx => hx, hb, fun m' k' hm hk => ?_⟩
      unfold handW
      rw [hm]
      split
      · rename_i e; exact absurd e hl
      · rw [hj]; exact hk
    · rename_i hj
      refine ⟨_, _, h, fun x hx => ?_, fun x hx => by simp [hx], by simp, fun m' k' hm hk => ?_⟩
      · rcases List.mem_append.1 hx with h | h
        · exact .inl h
        · right; simpa using h
      · unfold handW
        rw [hm]
        split
        · rename_i e; exact absurd e hl
        · rw [hj]; exact hk
theorem loc_caps {caps : List (Nat × Nat)} {ps : List Nat} {k : List (Nat × Nat) → List Nat → Prop} (h : capsW m caps ps k) : ∃ caps' ps', k caps' ps' ∧ (∀ x ∈ ps', x ∈ ps ∨ x ∈ caps.map (·.1)) ∧ (∀ x ∈ ps, x ∈ ps') ∧ (∀ x ∈ caps.map (·.1), x ∈ ps') ∧
    ∀ (m' : List (Nat × Box)) (k' : List (Nat × Nat) → List Nat → Prop), (∀ b ∈ caps.map (·.1), lkb m' b = lkb m b) → k' caps' ps' → capsW m' caps ps k' := by
  induction caps generalizing ps k with
  | nil => exact ⟨_, _, h, fun x hx => .inl hx, fun x hx => hx, fun x hx => (by cases hx), fun m' k' _ hk => hk⟩
  | cons p caps ih =>
    obtain ⟨b, off⟩ := p
    obtain ⟨j, p1, h1, h2, h3, h4, h5⟩ := loc_hand h
    obtain ⟨caps', p2, g1, g2, g3, g4, g5⟩ := ih h1
    refine ⟨_, _, g1, fun x hx => ?_, fun x hx => g3 x (h3 x hx), fun x hx => ?_, fun m' k' hm hk => ?_⟩
    · rcases g2 x hx with h | h
      · rcases h2 x h with h | h
        · exact .inl h
        · right; simp [h]
      · right; simp only [List.map_cons, List.mem_cons]; exact .inr h
    · simp only [List.map_cons, List.mem_cons] at hx
      rcases hx with rfl | hx
      · exact g3 _ h4
      · exact g4 x hx
    · exact h5 m' _ (hm b (by simp)) (g5 m' _ (fun x hx => hm x (by simp only [List.map_cons, List.mem_cons]; exact .inr hx)) hk)
theorem loc_cv {c : CV} {ps sh : List Nat} {k : CV → List Nat → List Nat → Prop} (h : cvW m c ps sh k) : ∃ c' ps' sh', k c' ps' sh' ∧ (∀ b ∈ ps', b ∈ ps ∨ b ∈ refsC c) ∧
    ∀ (m' : List (Nat × Box)) (k' : CV → List Nat → List Nat → Prop), (∀ b ∈ refsC c, lkb m' b = lkb m b) → k' c' ps' sh' → cvW m' c ps sh k' := by
  unfold cvW at h
  split at h
  · exact ⟨_, _, _, h, fun b hb => .inl hb, fun m' k' _ hk => hk⟩
  · exact ⟨_, _, _, h, fun b hb => .inl hb, fun m' k' _ hk => hk⟩
  · rename_i b
    split at h
    · rename_i t sz rs hb
      refine ⟨_, _, _, h, fun b hb => .inl hb, fun m' k' hm hk => ?_⟩
      unfold cvW; simp only
      rw [hm b (by simp [refsC]), hb]; exact hk
    · rename_i es hb
      obtain ⟨j, p1, h1, h2, h3, h4, h5⟩ := loc_hand h
      refine ⟨_, _, _, h1, fun x hx => (h2 x hx).imp id fun e => by simp [refsC, e], fun m' k' hm hk => ?_⟩
      unfold cvW; simp only
      rw [hm b (by simp [refsC]), hb]
      exact h5 m' (fun j ps => k' (.row j) ps sh) (hm b (by simp [refsC])) hk
    · exact h.elim
  · rename_i b off
    obtain ⟨j, p1, h1, h2, h3, h4, h5⟩ := loc_hand h
    exact ⟨_, _, _, h1, fun x hx => (h2 x hx).imp id fun e => by simp [refsC, e], fun m' k' hm hk => h5 m' (fun j ps => k' (.vptr j off) ps sh) (hm b (by simp [refsC])) hk⟩
  · rename_i f caps
    obtain ⟨caps', p1, h1, h2, h3, h4, h5⟩ := loc_caps h
    exact ⟨_, _, _, h1, fun x hx => (h2 x hx).imp id fun e => by simpa [refsC] using e, fun m' k' hm hk => h5 m' (fun caps ps => k' (.fn f caps) ps sh) (fun x hx => hm x (by simpa [refsC] using hx)) hk⟩
  · exact h.elim
theorem loc_cvs {cs : List CV} {ps sh : List Nat} {k : List CV → List Nat → List Nat → Prop} (h : cvsW m cs ps sh k) : ∃ cs' ps' sh', k cs' ps' sh' ∧ (∀ b ∈ ps', b ∈ ps ∨ b ∈ cs.flatMap refsC) ∧
    ∀ (m' : List (Nat × Box)) (k' : List CV → List Nat → List Nat → Prop), (∀ b ∈ cs.flatMap refsC, lkb m' b = lkb m b) → k' cs' ps' sh' → cvsW m' cs ps sh k' := by
  induction cs generalizing ps sh k with
  | nil => exact ⟨_, _, _, h, fun b hb => .inl hb, fun m' k' _ hk => hk⟩
  | cons c cs ih =>
    obtain ⟨c', p1, s1, h1, h2, h3⟩ := loc_cv h
    obtain ⟨cs', p2, s2, h4, h5, h6⟩ := ih h1
    refine ⟨_, _, _, h4, fun b hb => ?_, fun m' k' hm hk => ?_⟩
    · rw [List.flatMap_cons]
      rcases h5 b hb with h | h
      · rcases h2 b h with h | h
        · exact .inl h
        · exact .inr (List.mem_append_left _ h)
      · exact .inr (List.mem_append_right _ h)
    · rw [List.flatMap_cons] at hm
      exact h3 m' _ (fun b hb => hm b (List.mem_append_left _ hb)) (h6 m' _ (fun b hb => hm b (List.mem_append_right _ hb)) hk)
theorem loc_sv {v : SV} {ps sh : List Nat} {k : SV → List Nat → List Nat → Prop} (h : svW m v ps sh k) : ∃ c' ps' sh', k c' ps' sh' ∧ (∀ b ∈ ps', b ∈ ps ∨ b ∈ refsS v) ∧
    ∀ (m' : List (Nat × Box)) (k' : SV → List Nat → List Nat → Prop), (∀ b ∈ refsS v, lkb m' b = lkb m b) → k' c' ps' sh' → svW m' v ps sh k' := by
  unfold svW at h
  split at h
  · obtain ⟨c', p1, s1, h1, h2, h3⟩ := loc_cv h
    exact ⟨_, _, _, h1, h2, fun m' k' hm hk => h3 m' (fun c ps sh => k' (.one c) ps sh) hm hk⟩
  · obtain ⟨c', p1, s1, h1, h2, h3⟩ := loc_cvs h
    exact ⟨_, _, _, h1, h2, fun m' k' hm hk => h3 m' (fun c ps sh => k' (.agg c) ps sh) hm hk⟩
  · exact h.elim
theorem loc_svs {cs : List SV} {ps sh : List Nat} {k : List SV → List Nat → List Nat → Prop} (h : svsW m cs ps sh k) : ∃ cs' ps' sh', k cs' ps' sh' ∧ (∀ b ∈ ps', b ∈ ps ∨ b ∈ cs.flatMap refsS) ∧
    ∀ (m' : List (Nat × Box)) (k' : List SV → List Nat → List Nat → Prop), (∀ b ∈ cs.flatMap refsS, lkb m' b = lkb m b) → k' cs' ps' sh' → svsW m' cs ps sh k' := by
  induction cs generalizing ps sh k with
  | nil => exact ⟨_, _, _, h, fun b hb => .inl hb, fun m' k' _ hk => hk⟩
  | cons c cs ih =>
    obtain ⟨c', p1, s1, h1, h2, h3⟩ := loc_sv h
    obtain ⟨cs', p2, s2, h4, h5, h6⟩ := ih h1
    refine ⟨_, _, _, h4, fun b hb => ?_, fun m' k' hm hk => ?_⟩
    · rw [List.flatMap_cons]
      rcases h5 b hb with h | h
      · rcases h2 b h with h | h
        · exact .inl h
        · exact .inr (List.mem_append_left _ h)
      · exact .inr (List.mem_append_right _ h)
    · rw [List.flatMap_cons] at hm
      exact h3 m' _ (fun b hb => hm b (List.mem_append_left _ hb)) (h6 m' _ (fun b hb => hm b (List.mem_append_right _ hb)) hk)
theorem loc_bc {c : CV} {ps : List Nat} {k : CV → List Nat → Prop} (h : bcW m c ps k) : ∃ c' ps', k c' ps' ∧ (∀ b ∈ ps, b ∈ ps') ∧ ∀ (m' : List (Nat × Box)) (k' : CV → List Nat → Prop), (∀ b ∈ ps', lkb m' b = lkb m b) → k' c' ps' → bcW m' c ps k' := by
  unfold bcW at h
  split at h
  · exact ⟨_, _, h, fun _ h => h, fun m' k' _ hk => hk⟩
  · exact ⟨_, _, h, fun _ h => h, fun m' k' _ hk => hk⟩
  · rename_i b
    obtain ⟨j, p1, h1, h2, h3, h4, h5⟩ := loc_hand h
    exact ⟨_, _, h1, h3, fun m' k' hm hk => h5 m' (fun j ps => k' (.row j) ps) (hm b h4) hk⟩
  · rename_i b off
    obtain ⟨j, p1, h1, h2, h3, h4, h5⟩ := loc_hand h
    exact ⟨_, _, h1, h3, fun m' k' hm hk => h5 m' (fun j ps => k' (.vptr j off) ps) (hm b h4) hk⟩
  · rename_i f caps
    obtain ⟨caps', p1, h1, h2, h3, h4, h5⟩ := loc_caps h
    exact ⟨_, _, h1, h3, fun m' k' hm hk => h5 m' (fun caps ps => k' (.fn f caps) ps) (fun x hx => hm x (h4 x hx)) hk⟩
  · exact ⟨_, _, h, fun _ h => h, fun m' k' _ hk => hk⟩
  · exact ⟨_, _, h, fun _ h => h, fun m' k' _ hk => hk⟩
  · exact h.elim
theorem loc_bcs {cs : List CV} {ps : List Nat} {k : List CV → List Nat → Prop} (h : bcsW m cs ps k) : ∃ cs' ps', k cs' ps' ∧ (∀ b ∈ ps, b ∈ ps') ∧ ∀ (m' : List (Nat × Box)) (k' : List CV → List Nat → Prop), (∀ b ∈ ps', lkb m' b = lkb m b) → k' cs' ps' → bcsW m' cs ps k' := by
  induction cs generalizing ps k with
  | nil => exact ⟨_, _, h, fun _ h => h, fun m' k' _ hk => hk⟩
  | cons c cs ih =>
    obtain ⟨c', p1, h1, h2, h3⟩ := loc_bc h
    obtain ⟨cs', p2, g1, g2, g3⟩ := ih h1
    exact ⟨_, _, g1, fun b hb => g2 b (h2 b hb), fun m' k' hm hk => h3 m' _ (fun b hb => hm b (g2 b hb)) (g3 m' _ hm hk)⟩
theorem loc_bxs {fuel j : Nat} {ps : List Nat} {k : List Nat → List (Nat × Box) → Prop} (h : bxsW m fuel j ps k) : ∃ ps' mA, k ps' mA ∧ (∀ b ∈ ps, b ∈ ps') ∧ ∀ (m' : List (Nat × Box)) (k' : List Nat → List (Nat × Box) → Prop), (∀ b ∈ ps', lkb m' b = lkb m b) → k' ps' mA → bxsW m' fuel j ps k' := by
  induction fuel generalizing j ps k with
  | zero => exact h.elim
  | succ fuel ih =>
    simp only [bxsW] at h
    split at h
    · rename_i hn
      exact ⟨_, _, h, fun _ h => h, fun m' k' _ hk => by simp only [bxsW]; rw [hn]; exact hk⟩
    · rename_i b hb
      have hbm := List.mem_of_getElem? hb
      split at h
      · rename_i t cs hbx
        obtain ⟨cs', p1, h1, h2, h3⟩ := loc_bcs h
        obtain ⟨p2, mA, g1, g2, g3⟩ := ih h1
        refine ⟨_, _, g1, fun b hb => g2 b (h2 b hb), fun m' k' hm hk => ?_⟩
        simp only [bxsW]
        rw [hb]; simp only
        rw [hm b (g2 b (h2 b hbm)), hbx]
        exact h3 m' _ (fun b hb => hm b (g2 b hb)) (g3 m' _ hm hk)
      · rename_i t sz rs hbx
        obtain ⟨p2, mA, g1, g2, g3⟩ := ih h
        refine ⟨_, _, g1, g2, fun m' k' hm hk => ?_⟩
        simp only [bxsW]
        rw [hb]; simp only
        rw [hm b (g2 b hbm), hbx]
        exact g3 m' _ hm hk
      · rename_i es hbx
        obtain ⟨p2, mA, g1, g2, g3⟩ := ih h
        refine ⟨_, _, g1, g2, fun m' k' hm hk => ?_⟩
        simp only [bxsW]
        rw [hb]; simp only
        rw [hm b (g2 b hbm), hbx]
        exact g3 m' _ hm hk
      · exact h.elim
def callEnd (sh ps : List Nat) (n : Nat) (sv : SV) (mR : List (Nat × Box)) (nR : Nat) (K' : KO) : Prop := match sh with
  | [] => K' (renS (ren ps n) sv) (renM (ren ps n) mR ++ kills ps) (n + (nR - ps.length)) (ps ++ sh)
  | _ => match hardS sv with
    | true => K' (renS (ren ps n) sv) (renM (ren ps n) mR ++ (kills ps ++ kills sh)) (n + (nR - ps.length)) (ps ++ sh)
    | false => (FlatS sv ∧ FlatM mR) ∧ K' (renS (ren ps n) sv) (renM (ren ps n) mR ++ kills ps) (n + (nR - ps.length)) (ps ++ sh)
theorem callEnd_true {sh ps : List Nat} {n : Nat} {sv : SV} {mR : List (Nat × Box)} {nR : Nat} {K' : KO} (hne : sh ≠ []) (hh : hardS sv = true) (hk : K' (renS (ren ps n) sv) (renM (ren ps n) mR ++ (kills ps ++ kills sh)) (n + (nR - ps.length)) (ps ++ sh)) : callEnd sh ps n sv mR nR K' := by
  unfold callEnd; split
  · exact absurd rfl hne
  · rw [hh]; exact hk
theorem callEnd_false {sh ps : List Nat} {n : Nat} {sv : SV} {mR : List (Nat × Box)} {nR : Nat} {K' : KO} (hne : sh ≠ []) (hh : hardS sv = false) (hk : (FlatS sv ∧ FlatM mR) ∧ K' (renS (ren ps n) sv) (renM (ren ps n) mR ++ kills ps) (n + (nR - ps.length)) (ps ++ sh)) : callEnd sh ps n sv mR nR K' := by
  unfold callEnd; split
  · exact absurd rfl hne
  · rw [hh]; exact hk
theorem loc_call {P : Program} {f n : Nat} {svs : List SV} {K : KO} (h : callW P f m n svs K) : ∃ v upd n' ft, K v upd n' ft ∧ ∀ (m' : List (Nat × Box)) (K' : KO), (∀ b ∈ svs.flatMap refsS, lkb m' b = lkb m b) → (∀ b ∈ ft, lkb m' b = lkb m b) → K' v upd n' ft → callW P f m' n svs K' := by
  unfold callW at h
  obtain ⟨args, ps0, sh, h, hps, hl1⟩ := loc_svs h
  obtain ⟨ps, mA, h, hsub, hl2⟩ := loc_bxs h
  split at h
  · exact h.elim
  rename_i hap
  obtain ⟨sv, mR, nR, hfn, h⟩ := h
  split at h
  · exact h.elim
  rename_i hchk
  have key : ∀ (K' : KO) (m' : List (Nat × Box)), (∀ b ∈ svs.flatMap refsS, lkb m' b = lkb m b) → (∀ b ∈ ps ++ sh, lkb m' b = lkb m b) → callEnd sh ps n sv mR nR K' → callW P f m' n svs K' := by
    intro K' m' hm hm2 hk
    unfold callW
    refine hl1 m' _ hm (hl2 m' _ (fun b hb => hm2 b (by simp [hb])) ?_)
    rw [hap]
    simp only
    refine ⟨sv, mR, nR, hfn, ?_⟩
    rw [hchk]
    exact hk
  split at h
  · exact ⟨_, _, _, _, h, fun m' K' hm hm2 hk => key K' m' hm hm2 hk⟩
  · rename_i hne
    cases hh : hardS sv with
    | true =>
      rw [hh] at h
      exact ⟨_, _, _, _, h, fun m' K' hm hm2 hk => key K' m' hm hm2 (callEnd_true (fun e => hne e) hh hk)⟩
    | false =>
      rw [hh] at h
      exact ⟨_, _, _, _, h.2, fun m' K' hm hm2 hk => key K' m' hm hm2 (callEnd_false (fun e => hne e) hh ⟨h.1, hk⟩)⟩
theorem refs_evT {T : List (Nat × TI)} {ty : Nat} {l : List (Nat × SV)} {x : Operand} {b : Nat} (h : b ∈ refsS (evT T ty l x)) : b ∈ refsS (ev l x) := by
  unfold evT at h
  split at h
  · simp [refsS, refsC] at h
  · exact h
theorem evTs_congr {T : List (Nat × TI)} {l l' : List (Nat × SV)} : ∀ (ts : List Nat) (xs : List Operand), (∀ x ∈ xs, ev l' x = ev l x) → evTs T l' ts xs = evTs T l ts xs := by
  intro ts xs
  induction xs generalizing ts with
  | nil => intro _; cases ts <;> rfl
  | cons x xs ih => intro h; cases ts with
    | nil => simp only [evTs]; rw [h x (by simp), ih [] fun y hy => h y (by simp [hy])]
    | cons t ts => simp only [evTs]; rw [evT_congr (h x (by simp)), ih ts fun y hy => h y (by simp [hy])]
theorem refs_evTs {T : List (Nat × TI)} {l : List (Nat × SV)} {b : Nat} : ∀ (ts : List Nat) (xs : List Operand), b ∈ (evTs T l ts xs).flatMap refsS → ∃ x ∈ xs, b ∈ refsS (ev l x) := by
  intro ts xs
  induction xs generalizing ts with
  | nil => intro h; cases ts <;> simp [evTs] at h
  | cons x xs ih =>
    intro h
    cases ts with
    | nil =>
      simp only [evTs, List.flatMap_cons] at h
      rcases List.mem_append.1 h with h | h
      · exact ⟨x, by simp, h⟩
      · obtain ⟨y, hy, h⟩ := ih [] h; exact ⟨y, by simp [hy], h⟩
    | cons t ts =>
      simp only [evTs, List.flatMap_cons] at h
      rcases List.mem_append.1 h with h | h
      · exact ⟨x, by simp, refs_evT h⟩
      · obtain ⟨y, hy, h⟩ := ih ts h; exact ⟨y, by simp [hy], h⟩

theorem mem_cells {v : SV} {cs : List CV} {b : Nat} (h : cells v = some cs) (hb : CV.row b ∈ cs) : b ∈ refsS v := by
  cases v with
  | one c => simp only [cells, Option.some.injEq] at h; subst h; simp at hb; subst hb; simp [refsS, refsC]
  | agg cs' => simp only [cells, Option.some.injEq] at h; subst h; exact List.mem_flatMap.2 ⟨_, hb, by simp [refsC]⟩
  | bot => cases h
  | tup => cases h
theorem conv_det {ts td : TI} {x : SV} {K : SV → Prop} (h : convW ts td x K) : ∃ v, K v ∧ ∀ K' : SV → Prop, K' v → convW ts td x K' := by
  unfold convW at h ⊢
  split at h
  · split at h
    · exact ⟨_, h, fun K' hk => hk⟩
    · exact h.elim
  · split at h
    · split at h
      · exact ⟨_, h, fun K' hk => hk⟩
      · exact h.elim
    · split at h
      · exact ⟨_, h, fun K' hk => hk⟩
      · exact h.elim
    · exact h.elim
  · exact h.elim
theorem fieldV_det {T : List (Nat × TI)} {ti : TI} {f : Nat} {x : SV} {K : SV → Prop} (h : fieldW T ti f x K) : ∃ v, K v ∧ ∀ K' : SV → Prop, K' v → fieldW T ti f x K' := by
  unfold fieldW at h
  split at h
  · rename_i fs hk
    split at h
    · exact h.elim
    · rename_i off ft hf
      split at h
      · exact h.elim
      · rename_i te hte
        split at h
        · rename_i cs
          obtain ⟨v, h1, h2⟩ := ldC_det h
          refine ⟨v, h1, fun K' hk' => ?_⟩
          unfold fieldW; rw [hk]; simp only
          rw [hf]; simp only
          rw [hte]; simp only
          exact h2 K' hk'
        · exact h.elim
  · exact h.elim
theorem build_det {T : List (Nat × TI)} {ti : TI} {l : List (Nat × SV)} {ps : List (Nat × Operand)} {K : SV → Prop} (h : buildW T ti l ps K) : ∃ v, K v ∧ ∀ (l' : List (Nat × SV)) (K' : SV → Prop), (∀ p ∈ ps, ev l' p.2 = ev l p.2) → K' v → buildW T ti l' ps K' := by
  unfold buildW at h
  split at h
  · exact h.elim
  · rename_i ha
    obtain ⟨cs, h1, h2, _⟩ := partsW_ok (m := []) h
    refine ⟨_, h1, fun l' K' hl hk => ?_⟩
    unfold buildW; rw [ha]
    exact h2 l' (fun cs => K' (.agg cs)) hl hk
theorem buildS_loc {T : List (Nat × TI)} {ti : TI} {len n : Nat} {l : List (Nat × SV)} {ps : List (Nat × Operand)} {K : KO} (h : buildSliceW T ti len l m n ps K) : ∃ v upd n' ft, K v upd n' ft ∧
    ∀ (l' : List (Nat × SV)) (m' : List (Nat × Box)) (K' : KO), (∀ p ∈ ps, ev l' p.2 = ev l p.2) → (∀ p ∈ ps, ∀ b ∈ refsS (ev l p.2), lkb m' b = lkb m b) → K' v upd n' ft → buildSliceW T ti len l' m' n ps K' := by
  unfold buildSliceW at h
  split at h
  · rename_i e hk
    split at h
    · exact h.elim
    · rename_i te hte
      split at h
      · exact h.elim
      · rename_i hchk
        obtain ⟨rs, ks, h1, _, _, _, _, _, h2, _⟩ := rowsW_ok h
        refine ⟨_, _, _, _, h1, fun l' m' K' hl hm hk' => ?_⟩
        unfold buildSliceW; rw [hk]; simp only
        rw [hte]; simp only
        rw [hchk]; simp only
        exact h2 l' m' (fun rs ks => K' (.one (.row n)) ((n, .rows e te.size rs) :: kills ks) (n + 1) ks) (fun p hp => evT_congr (hl p hp)) (fun p hp cs b hcs hb => hm p hp b (refs_evT (mem_cells hcs hb))) hk'
  · exact h.elim
theorem append_loc {T : List (Nat × TI)} {ti : TI} {n : Nat} {x y : SV} {K : KO} (h : appendW T ti x y m n K) : ∃ v upd n' ft, K v upd n' ft ∧
    ∀ (m' : List (Nat × Box)) (K' : KO), (∀ b ∈ refsS x, lkb m' b = lkb m b) → (∀ b ∈ refsS y, lkb m' b = lkb m b) → K' v upd n' ft → appendW T ti x y m' n K' := by
  unfold appendW at h
  split at h
  · rename_i e hk
    split at h
    · exact h.elim
    · rename_i te hte
      split at h
      · exact h.elim
      · rename_i hpos
        obtain ⟨news, ft, h9, hloc, _⟩ := srcW_ok h
        clear h
        have h := h9
        clear h9
        split at h
        · refine ⟨_, _, _, _, h.2, fun m' K' hx hy hk' => ?_⟩
          unfold appendW; rw [hk]; simp only
          rw [hte]; simp only
          rw [hpos]; simp only
          exact hloc m' _ (fun b e => hy b (by rcases e with e | ⟨k, e⟩ <;> (subst e; simp [refsS, refsC]))) ⟨h.1, hk'⟩
        · rename_i b
          split at h
          · rename_i tb s rs hb
            split at h
            · exact h.elim
            · rename_i hchk
              refine ⟨_, _, _, _, h.2, fun m' K' hx hy hk' => ?_⟩
              unfold appendW; rw [hk]; simp only
              rw [hte]; simp only
              rw [hpos]; simp only
              refine hloc m' _ (fun b e => hy b (by rcases e with e | ⟨k, e⟩ <;> (subst e; simp [refsS, refsC]))) ?_
              rw [hx b (by simp [refsS, refsC]), hb]; simp only
              rw [hchk]
              exact ⟨h.1, hk'⟩
          · exact h.elim
        · rename_i b i
          split at h
          · rename_i tb s rs hb
            split at h
            · exact h.elim
            · rename_i hchk
              refine ⟨_, _, _, _, h.2, fun m' K' hx hy hk' => ?_⟩
              unfold appendW; rw [hk]; simp only
              rw [hte]; simp only
              rw [hpos]; simp only
              refine hloc m' _ (fun b e => hy b (by rcases e with e | ⟨k, e⟩ <;> (subst e; simp [refsS, refsC]))) ?_
              rw [hx b (by simp [refsS, refsC]), hb]; simp only
              rw [hchk]
              exact ⟨h.1, hk'⟩
          · exact h.elim
        · exact h.elim
  · exact h.elim
theorem make_det {T : List (Nat × TI)} {ti : TI} {p q : Int} {n : Nat} {K : KO} (h : makeW T ti p q n K) : ∃ v upd n' ft, K v upd n' ft ∧ ∀ K' : KO, K' v upd n' ft → makeW T ti p q n K' := by
  unfold makeW at h
  split at h
  · rename_i e hk
    split at h
    · exact h.elim
    · rename_i te hte
      split at h
      · exact h.elim
      · rename_i hpos
        obtain ⟨ds, h1, h2⟩ := toDp_det h
        refine ⟨_, _, _, _, h1.2, fun K' hk' => ?_⟩
        unfold makeW; rw [hk]; simp only
        rw [hte]; simp only
        rw [hpos]; simp only
        exact h2 _ ⟨h1.1, hk'⟩
  · exact h.elim

/-- The step, elsewhere: the same value, the same boxes. -/
theorem loc_elem {T : List (Nat × TI)} {ti : TI} {sx : SV} {i : Int} {K : SV → Prop} (h : elemW T ti sx i K) : ∃ v, K v ∧ ∀ K' : SV → Prop, K' v → elemW T ti sx i K' := by
  unfold elemW at h ⊢
  split at h
  · split at h
    · exact ⟨_, h.2, fun K' hk => ⟨h.1, hk⟩⟩
    · exact h.elim
  · split at h
    · exact h.elim
    · split at h
      · obtain ⟨hb, h⟩ := h
        unfold arrF at h
        obtain ⟨v, h1, h2⟩ := ldC_det h
        exact ⟨v, h1, fun K' hk => ⟨hb, h2 K' hk⟩⟩
      · exact h.elim
  · exact h.elim
theorem loc_bnds {len : Nat} {lo hi : Option Int} {k : Nat → Nat → Prop} (h : bndsW len lo hi k) : ∃ a b, k a b ∧ ∀ k' : Nat → Nat → Prop, k' a b → bndsW len lo hi k' := by
  unfold bndsW at h ⊢
  split at h
  · split at h
    · exact ⟨_, _, h, fun _ h => h⟩
    · exact ⟨_, _, h.2, fun _ hk => ⟨h.1, hk⟩⟩
  · split at h
    · exact ⟨_, _, h.2, fun _ hk => ⟨h.1, hk⟩⟩
    · exact ⟨_, _, h.2, fun _ hk => ⟨h.1, hk⟩⟩
theorem loc_slice {T : List (Nat × TI)} {ti : TI} {sx : SV} {lo hi : Option Int} {n : Nat} {K : KO} (h : sliceW T ti sx lo hi m n K) : ∃ v upd n' ft, K v upd n' ft ∧ ∀ (m' : List (Nat × Box)) (K' : KO), (∀ b ∈ refsS sx, lkb m' b = lkb m b) → K' v upd n' ft → sliceW T ti sx lo hi m' n K' := by
  unfold sliceW at h
  split at h
  · rename_i e hk
    split at h
    · exact h.elim
    · rename_i te hte
      split at h
      · rename_i sz rows
        split at h
        · exact h.elim
        · rename_i hsz
          obtain ⟨p, q, h1, h2⟩ := loc_bnds h
          refine ⟨_, _, _, _, h1, fun m' K' hm hk' => ?_⟩
          unfold sliceW
          rw [hk]; simp only
          rw [hte]; simp only
          rw [hsz]; exact h2 _ hk'
      · obtain ⟨p, q, h1, h2⟩ := loc_bnds h
        refine ⟨_, _, _, _, h1, fun m' K' hm hk' => ?_⟩
        unfold sliceW
        rw [hk]; simp only
        rw [hte]; exact h2 _ hk'
      · rename_i b
        split at h
        · rename_i tb sz rs hb
          split at h
          · exact h.elim
          · rename_i hsz
            split at h
            · obtain ⟨p, q, h1, h2⟩ := loc_bnds h
              rcases h1 with h1 | h1
              · refine ⟨_, _, _, _, h1, fun m' K' hm hk' => ?_⟩
                unfold sliceW
                rw [hk]; simp only
                rw [hte]; simp only
                rw [hm b (by simp [refsS, refsC]), hb]; simp only
                rw [hsz]; exact h2 _ (.inl hk')
              · refine ⟨_, _, _, _, h1, fun m' K' hm hk' => ?_⟩
                unfold sliceW
                rw [hk]; simp only
                rw [hte]; simp only
                rw [hm b (by simp [refsS, refsC]), hb]; simp only
                rw [hsz]; exact h2 _ (.inr hk')
            · split at h
              · obtain ⟨p, q, h1, h2⟩ := loc_bnds h
                refine ⟨_, _, _, _, h1, fun m' K' hm hk' => ?_⟩
                unfold sliceW
                rw [hk]; simp only
                rw [hte]; simp only
                rw [hm b (by simp [refsS, refsC]), hb]; simp only
                rw [hsz]; exact h2 _ hk'
              · exact h.elim
        · exact h.elim
      · exact h.elim
  · rename_i hk
    split at h
    · obtain ⟨p, q, h1, h2⟩ := loc_bnds h
      refine ⟨_, _, _, _, h1, fun m' K' hm hk' => ?_⟩
      unfold sliceW
      rw [hk]; exact h2 _ hk'
    · exact h.elim
  · rename_i cnt e hk
    split at h
    · exact h.elim
    · rename_i te hte
      split at h
      · rename_i b off
        split at h
        · rename_i tb cs hb
          split at h
          · exact h.elim
          · rename_i hchk
            split at h
            · exact h.elim
            · obtain ⟨p, q, h1, h2⟩ := loc_bnds h
              rcases h1 with h1 | h1
              · obtain ⟨ds, h1, h3⟩ := toDp_det h1
                refine ⟨_, _, _, _, h1, fun m' K' hm hk' => ?_⟩
                unfold sliceW
                rw [hk]; simp only
                rw [hte]; simp only
                rw [hm b (by simp [refsS, refsC]), hb]; simp only
                rw [hchk]; exact h2 _ (.inl (h3 _ hk'))
              · refine ⟨_, _, _, _, h1, fun m' K' hm hk' => ?_⟩
                unfold sliceW
                rw [hk]; simp only
                rw [hte]; simp only
                rw [hm b (by simp [refsS, refsC]), hb]; simp only
                rw [hchk]; exact h2 _ (.inr hk')
        · exact h.elim
      · exact h.elim
  · exact h.elim
theorem loc_next {sx : SV} {K : SV → List (Nat × Box) → List Nat → Prop} (h : nextW m sx K) : ∃ v upd ft, K v upd ft ∧ ∀ (m' : List (Nat × Box)) (K' : SV → List (Nat × Box) → List Nat → Prop), (∀ b ∈ refsS sx, lkb m' b = lkb m b) → K' v upd ft → nextW m' sx K' := by
  unfold nextW at h
  split at h
  · rename_i b
    split at h
    · rename_i s pos hb
      have h := ask_elim h
      rcases hd : decide (pos < s.size) with _ | _
      · rw [hd] at h
        refine ⟨_, _, _, h, fun m' K' hm hk => ?_⟩
        unfold nextW; simp only
        rw [hm b (by simp [refsS, refsC]), hb]; simp only
        rw [hd]; exact hk
      · rw [hd] at h
        refine ⟨_, _, _, h, fun m' K' hm hk => ?_⟩
        unfold nextW; simp only
        rw [hm b (by simp [refsS, refsC]), hb]; simp only
        rw [hd]; exact hk
    · exact h.elim
  · exact h.elim
theorem optI_congr {l l' : List (Nat × SV)} {x : Option Operand} {k : Option Int → Prop} (h : optI l x k) : ∃ i, k i ∧ ∀ (l' : List (Nat × SV)) (k' : Option Int → Prop), (∀ y ∈ x.toList, ev l' y = ev l y) → k' i → optI l' x k' := by
  unfold optI at h
  split at h
  · exact ⟨_, h, fun l' k' _ hk => hk⟩
  · rename_i x
    split at h
    · rename_i kk i hx
      refine ⟨_, h, fun l' k' hl hk => ?_⟩
      unfold optI; simp only
      rw [hl x (by simp), hx]; exact hk
    · exact h.elim
theorem loc_lookup {P : Program} {T : List (Nat × TI)} {t n : Nat} {l : List (Nat × SV)} {x k : Operand} {ok : Bool} {K : KO} (h : lookupW T P t l m n x k ok K) : ∃ v upd n' ft, K v upd n' ft ∧
    ∀ (l' : List (Nat × SV)) (m' : List (Nat × Box)) (K' : KO), ev l' x = ev l x → ev l' k = ev l k → (∀ b ∈ refsS (ev l x), lkb m' b = lkb m b) → K' v upd n' ft → lookupW T P t l' m' n x k ok K' := by
  unfold lookupW at h
  split at h
  · rename_i b hx
    split at h
    · rename_i es hb
      split at h
      · rename_i key hk
        obtain ⟨kt, et, d, hq, h⟩ := h
        split at h
        · exact h.elim
        · rename_i te hte
          obtain ⟨hz, r, hr, h⟩ := h
          cases r with
          | none =>
            refine ⟨_, _, _, _, h, fun l' m' K' hl1 hl2 hm hk' => ?_⟩
            unfold lookupW
            rw [hl1, hx]; simp only
            rw [hm b (by rw [hx]; simp [refsS, refsC]), hb]; simp only
            rw [hl2, hk]; simp only
            refine ⟨kt, et, d, hq, ?_⟩
            rw [hte]
            exact ⟨hz, none, hr, hk'⟩
          | some p =>
            refine ⟨_, _, _, _, h, fun l' m' K' hl1 hl2 hm hk' => ?_⟩
            unfold lookupW
            rw [hl1, hx]; simp only
            rw [hm b (by rw [hx]; simp [refsS, refsC]), hb]; simp only
            rw [hl2, hk]; simp only
            refine ⟨kt, et, d, hq, ?_⟩
            rw [hte]
            exact ⟨hz, some p, hr, hk'⟩
      · rename_i cs hk
        obtain ⟨key, h, hdet⟩ := toDp_det h
        obtain ⟨kt, et, hq, h⟩ := h
        split at h
        · exact h.elim
        · rename_i tk htk
          split at h
          · exact h.elim
          · rename_i te hte
            obtain ⟨hz, r, hr, h⟩ := h
            cases r with
            | none =>
              refine ⟨_, _, _, _, h, fun l' m' K' hl1 hl2 hm hk' => ?_⟩
              unfold lookupW
              rw [hl1, hx]; simp only
              rw [hm b (by rw [hx]; simp [refsS, refsC]), hb]; simp only
              rw [hl2, hk]; simp only
              refine hdet _ ⟨kt, et, hq, ?_⟩
              rw [htk]; simp only
              rw [hte]
              exact ⟨hz, none, hr, hk'⟩
            | some p =>
              refine ⟨_, _, _, _, h, fun l' m' K' hl1 hl2 hm hk' => ?_⟩
              unfold lookupW
              rw [hl1, hx]; simp only
              rw [hm b (by rw [hx]; simp [refsS, refsC]), hb]; simp only
              rw [hl2, hk]; simp only
              refine hdet _ ⟨kt, et, hq, ?_⟩
              rw [htk]; simp only
              rw [hte]
              exact ⟨hz, some p, hr, hk'⟩
      · exact h.elim
    · exact h.elim
  · exact h.elim
theorem dataW_det {v : SV} {k : Bool × List DV → Prop} (h : dataW v k) : ∃ p, k p ∧ ∀ k' : Bool × List DV → Prop, k' p → dataW v k' := by
  unfold dataW at h
  split at h
  · obtain ⟨ds, h1, h2⟩ := toDp_det h
    exact ⟨_, h1, fun k' hk' => h2 (fun ds => k' (false, ds)) hk'⟩
  · obtain ⟨ds, h1, h2⟩ := toDp_det h
    exact ⟨_, h1, fun k' hk' => h2 (fun ds => k' (true, ds)) hk'⟩
  · exact h.elim
theorem loc_insert {P : Program} {T : List (Nat × TI)} {t n : Nat} {l : List (Nat × SV)} {x k y : Operand} {K : KO} (h : insertW T P t l m n x k y K) : ∃ v upd n' ft, K v upd n' ft ∧
    ∀ (l' : List (Nat × SV)) (m' : List (Nat × Box)) (K' : KO), ev l' x = ev l x → ev l' k = ev l k → ev l' y = ev l y → (∀ b ∈ refsS (ev l x), lkb m' b = lkb m b) → K' v upd n' ft → insertW T P t l' m' n x k y K' := by
  unfold insertW at h
  split at h
  · rename_i b hx
    split at h
    · rename_i es hb
      split at h
      · rename_i key hk
        obtain ⟨kt, et, d, hq, h⟩ := h
        obtain ⟨p, ⟨r, hr, h⟩, hdet⟩ := dataW_det h
        cases r with
        | none =>
          refine ⟨_, _, _, _, h, fun l' m' K' hl1 hl2 hl3 hm hk' => ?_⟩
          unfold insertW
          rw [hl1, hx]; simp only
          rw [hm b (by rw [hx]; simp [refsS, refsC]), hb]; simp only
          rw [hl2, hk]; simp only
          refine ⟨kt, et, d, hq, ?_⟩
          rw [evT_congr hl3]
          exact hdet _ ⟨none, hr, hk'⟩
        | some q =>
          refine ⟨_, _, _, _, h, fun l' m' K' hl1 hl2 hl3 hm hk' => ?_⟩
          unfold insertW
          rw [hl1, hx]; simp only
          rw [hm b (by rw [hx]; simp [refsS, refsC]), hb]; simp only
          rw [hl2, hk]; simp only
          refine ⟨kt, et, d, hq, ?_⟩
          rw [evT_congr hl3]
          exact hdet _ ⟨some q, hr, hk'⟩
      · rename_i cs hk
        obtain ⟨key, h, hdk⟩ := toDp_det h
        obtain ⟨kt, et, hq, h⟩ := h
        split at h
        · exact h.elim
        · rename_i tk htk
          obtain ⟨p, ⟨r, hr, h⟩, hdet⟩ := dataW_det h
          cases r with
          | none =>
            refine ⟨_, _, _, _, h, fun l' m' K' hl1 hl2 hl3 hm hk' => ?_⟩
            unfold insertW
            rw [hl1, hx]; simp only
            rw [hm b (by rw [hx]; simp [refsS, refsC]), hb]; simp only
            rw [hl2, hk]; simp only
            refine hdk _ ⟨kt, et, hq, ?_⟩
            rw [htk]; simp only
            rw [evT_congr hl3]
            exact hdet _ ⟨none, hr, hk'⟩
          | some q =>
            refine ⟨_, _, _, _, h, fun l' m' K' hl1 hl2 hl3 hm hk' => ?_⟩
            unfold insertW
            rw [hl1, hx]; simp only
            rw [hm b (by rw [hx]; simp [refsS, refsC]), hb]; simp only
            rw [hl2, hk]; simp only
            refine hdk _ ⟨kt, et, hq, ?_⟩
            rw [htk]; simp only
            rw [evT_congr hl3]
            exact hdet _ ⟨some q, hr, hk'⟩
      · exact h.elim
    · exact h.elim
  · exact h.elim
theorem loc_copy {T : List (Nat × TI)} {ti : TI} {n : Nat} {x y : SV} {K : KO} (h : copyW T ti x y m n K) : ∃ v upd n' ft, K v upd n' ft ∧
    ∀ (m' : List (Nat × Box)) (K' : KO), (∀ b ∈ refsS x, lkb m' b = lkb m b) → (∀ b ∈ refsS y, lkb m' b = lkb m b) → K' v upd n' ft → copyW T ti x y m' n K' := by
  unfold copyW at h
  split at h
  · rename_i e hk
    split at h
    · exact h.elim
    · rename_i te hte
      split at h
      · rename_i b k kc
        split at h
        · rename_i tb cs hb
          split at h
          · exact h.elim
          · rename_i hchk
            obtain ⟨news, ft, h9, hloc, _⟩ := srcW_ok h
            refine ⟨_, _, _, _, h9.2, fun m' K' hx hy hk' => ?_⟩
            unfold copyW; rw [hk]; simp only
            rw [hte]; simp only
            rw [hx b (by simp [refsS, refsC]), hb]; simp only
            rw [hchk]
            exact hloc m' _ (fun b e => hy b (by rcases e with e | ⟨k, e⟩ <;> (subst e; simp [refsS, refsC]))) ⟨h9.1, hk'⟩
        · exact h.elim
      · rename_i hno
        split at h
        · exact h.elim
        · rename_i b a hd
          have hx2 : x = .one (.row b) ∧ a = 0 ∨ x = .one (.rsl b a) := by
            unfold dstOf at hd
            split at hd
            · injection hd with hd; injection hd with e1 e2; subst e1 e2; exact .inl ⟨rfl, rfl⟩
            · injection hd with hd; injection hd with e1 e2; subst e1 e2; exact .inr rfl
            · cases hd
          split at h
          · rename_i tb s rs hb
            split at h
            · exact h.elim
            · rename_i hchk
              obtain ⟨news, ft, h9, hloc, _⟩ := srcW_ok h
              refine ⟨_, _, _, _, h9.2, fun m' K' hx hy hk' => ?_⟩
              unfold copyW; rw [hk]; simp only
              rw [hte]
              rcases hx2 with ⟨rfl, rfl⟩ | rfl
              · simp only [dstOf]
                rw [hx b (by simp [refsS, refsC]), hb]; simp only
                rw [hchk]
                exact hloc m' _ (fun b e => hy b (by rcases e with e | ⟨k, e⟩ <;> (subst e; simp [refsS, refsC]))) ⟨h9.1, hk'⟩
              · simp only [dstOf]
                rw [hx b (by simp [refsS, refsC]), hb]; simp only
                rw [hchk]
                exact hloc m' _ (fun b e => hy b (by rcases e with e | ⟨k, e⟩ <;> (subst e; simp [refsS, refsC]))) ⟨h9.1, hk'⟩
          · exact h.elim
  · exact h.elim
theorem opW_loc {P : Program} {T : List (Nat × TI)} {o : Oper} {l : List (Nat × SV)} {n : Nat} {K : KO} (h : opW T P o l m n K) : ∃ v upd n' ft, K v upd n' ft ∧
    ∀ (l' : List (Nat × SV)) (m' : List (Nat × Box)) (K' : KO), (∀ x ∈ o.op.operands.toList, ev l' x = ev l x) → (∀ b ∈ footOf o l, lkb m' b = lkb m b) → (∀ b ∈ ft, lkb m' b = lkb m b) → K' v upd n' ft → opW T P o l' m' n K' := by
  unfold opW at h
  split at h
  · rename_i x ho
    refine ⟨_, _, _, _, h, fun l' m' K' hl hm hft hk => ?_⟩
    unfold opW; rw [ho]; simp only
    rw [evT_congr (hl x (by simp [ho, Op.operands]))]; exact hk
  · rename_i x ho
    refine ⟨_, _, _, _, h, fun l' m' K' hl hm hft hk => ?_⟩
    unfold opW; rw [ho]; simp only
    rw [evT_congr (hl x (by simp [ho, Op.operands]))]; exact hk
  · rename_i c x y ho
    split at h
    · rename_i b hc
      have h' := ask_elim h
      have key : ∀ (l' : List (Nat × SV)), (∀ x ∈ o.op.operands.toList, ev l' x = ev l x) → ev l' c = .one (.dv (.bool b)) ∧ evT T o.type l' x = evT T o.type l x ∧ evT T o.type l' y = evT T o.type l y := fun l' hl =>
        ⟨(hl c (by simp [ho, Op.operands])).trans hc, evT_congr (hl x (by simp [ho, Op.operands])), evT_congr (hl y (by simp [ho, Op.operands]))⟩
      cases b
      · refine ⟨_, _, _, _, h', fun l' m' K' hl hm hft hk => ?_⟩
        obtain ⟨e1, e2, e3⟩ := key l' hl
        unfold opW; rw [ho]; simp only
        rw [e1]; simp only
        rw [e2, e3]; exact hk
      · refine ⟨_, _, _, _, h', fun l' m' K' hl hm hft hk => ?_⟩
        obtain ⟨e1, e2, e3⟩ := key l' hl
        unfold opW; rw [ho]; simp only
        rw [e1]; simp only
        rw [e2, e3]; exact hk
    · exact h.elim
  · rename_i op t x y t' ho
    split at h
    · rename_i dx hx
      split at h
      · rename_i dy hy
        obtain ⟨d, h1, h2⟩ := bin_det h
        refine ⟨_, _, _, _, h1, fun l' m' K' hl hm hft hk => ?_⟩
        unfold opW; rw [ho]; simp only
        rw [hl x (by simp [ho, Op.operands]), hx]; simp only
        rw [hl y (by simp [ho, Op.operands]), hy]
        exact h2 _ hk
      · rename_i s hy
        split at h
        · split at h
          · rename_i ti hti
            split at h
            · rename_i e hkk
              split at h
              · refine ⟨_, _, _, _, h, fun l' m' K' hl hm hft hk => ?_⟩
                unfold opW; rw [ho]; simp only
                rw [hl x (by simp [ho, Op.operands]), hx]; simp only
                rw [hl y (by simp [ho, Op.operands]), hy]; simp only
                rw [hti]; simp only
                rw [hkk]; exact hk
              · exact h.elim
            · exact h.elim
          · exact h.elim
        · exact h.elim
      · exact h.elim
    · rename_i cs hx
      split at h
      · rename_i ds hy
        split at h
        · exact h.elim
        · rename_i hta
          split at h
          · obtain ⟨b, h1, h2⟩ := eqK_det h.2
            refine ⟨_, _, _, _, h1, fun l' m' K' hl hm hft hk => ?_⟩
            unfold opW; rw [ho]; simp only
            rw [hl x (by simp [ho, Op.operands]), hx]; simp only
            rw [hl y (by simp [ho, Op.operands]), hy]; simp only
            rw [hta]; exact ⟨h.1, h2 _ hk⟩
          · obtain ⟨b, h1, h2⟩ := eqK_det h.2
            refine ⟨_, _, _, _, h1, fun l' m' K' hl hm hft hk => ?_⟩
            unfold opW; rw [ho]; simp only
            rw [hl x (by simp [ho, Op.operands]), hx]; simp only
            rw [hl y (by simp [ho, Op.operands]), hy]; simp only
            rw [hta]; exact ⟨h.1, h2 _ hk⟩
          · exact h.elim
      · exact h.elim
    · exact h.elim
  · rename_i op t x ho
    split at h
    · rename_i b hx
      split at h
      · refine ⟨_, _, _, _, h, fun l' m' K' hl hm hft hk => ?_⟩
        unfold opW; rw [ho]; simp only
        rw [hl x (by simp [ho, Op.operands]), hx]; exact hk
      · exact h.elim
    · rename_i k b hx
      split at h
      · refine ⟨_, _, _, _, h, fun l' m' K' hl hm hft hk => ?_⟩
        unfold opW; rw [ho]; simp only
        rw [hl x (by simp [ho, Op.operands]), hx]; exact hk
      · exact h.elim
    · exact h.elim
  · rename_i t x ho
    split at h
    · rename_i ti hti
      obtain ⟨v, ft, h1, h2⟩ := loc_load h
      refine ⟨_, _, _, _, h1, fun l' m' K' hl hm hft hk => ?_⟩
      unfold opW; rw [ho]; simp only
      rw [hti, hl x (by simp [ho, Op.operands])]
      exact h2 m' (fun v ft => K' v [] n ft) (fun b hb => hm b (by simp [footOf, ho, Op.operands, hb])) hk
    · exact h.elim
  · rename_i t x y ho
    split at h
    · rename_i ti hti
      split at h
      · rename_i cs hcs
        obtain ⟨upd, ft, h1, h2⟩ := loc_store h
        refine ⟨_, _, _, _, h1, fun l' m' K' hl hm hft hk => ?_⟩
        unfold opW; rw [ho]; simp only
        rw [hti, hl x (by simp [ho, Op.operands]), evT_congr (hl y (by simp [ho, Op.operands]))]; simp only
        rw [hcs]
        exact h2 m' (fun upd ft => K' .bot upd n ft) (fun b hb => hm b (by simp [footOf, ho, Op.operands, hb])) (fun b hb => hm b (by have := refs_evT (mem_cells hcs hb); simp [footOf, ho, Op.operands, this])) hk
      · exact h.elim
    · exact h.elim
  · rename_i t ho
    split at h
    · rename_i ti hti
      refine ⟨_, _, _, _, h, fun l' m' K' hl hm hft hk => ?_⟩
      unfold opW; rw [ho]; simp only
      rw [hti]; exact hk
    · exact h.elim
  · rename_i t x ho
    split at h
    · rename_i cs hcs
      refine ⟨_, _, _, _, h, fun l' m' K' hl hm hft hk => ?_⟩
      unfold opW; rw [ho]; simp only
      rw [evT_congr (hl x (by simp [ho, Op.operands])), hcs]; exact hk
    · exact h.elim
  · rename_i t x i ho
    split at h
    · rename_i ti hti
      split at h
      · rename_i k j hj
        obtain ⟨v, ft, h1, h2⟩ := loc_index h
        refine ⟨_, _, _, _, h1, fun l' m' K' hl hm hft hk => ?_⟩
        unfold opW; rw [ho]; simp only
        rw [hti, hl i (by simp [ho, Op.operands]), hj]; simp only
        rw [hl x (by simp [ho, Op.operands])]
        exact h2 m' (fun v ft => K' v [] n ft) (fun b hb => hm b (by simp [footOf, ho, Op.operands, hb])) hk
      · exact h.elim
    · exact h.elim
  · rename_i t x f ho
    split at h
    · rename_i ti hti
      obtain ⟨v, h1, h2⟩ := loc_field h
      refine ⟨_, _, _, _, h1, fun l' m' K' hl hm hft hk => ?_⟩
      unfold opW; rw [ho]; simp only
      rw [hti, hl x (by simp [ho, Op.operands])]
      exact h2 m' (fun v => K' v [] n []) (fun b hb => hm b (by simp [footOf, ho, Op.operands, hb])) hk
    · exact h.elim
  · rename_i t x i ho
    split at h
    · rename_i ti hti
      split at h
      · rename_i k j hj
        obtain ⟨v, h1, h2⟩ := loc_elem h
        refine ⟨_, _, _, _, h1, fun l' m' K' hl hm hft hk => ?_⟩
        unfold opW; rw [ho]; simp only
        rw [hti]; simp only
        rw [hl i (by simp [ho, Op.operands]), hj, hl x (by simp [ho, Op.operands])]
        exact h2 (fun v => K' v [] n []) hk
      · exact h.elim
    · exact h.elim
  · rename_i t x lo hi mx ho
    split at h
    · exact h.elim
    · split at h
      · rename_i ti hti
        obtain ⟨lo', h, hlo⟩ := optI_congr (l' := l) h
        obtain ⟨hi', h, hhi⟩ := optI_congr (l' := l) h
        obtain ⟨v, upd, n', ft, h1, h2⟩ := loc_slice h
        refine ⟨_, _, _, _, h1, fun l' m' K' hl hm hft hk => ?_⟩
        unfold opW; rw [ho]; simp only
        rw [hti]; simp only
        refine hlo l' _ (fun y hy => hl y ?_) (hhi l' _ (fun y hy => hl y ?_) ?_)
        · cases lo with
          | none => simp at hy
          | some z => simp at hy; subst hy; simp [ho, Op.operands]
        · cases hi with
          | none => simp at hy
          | some z => simp at hy; subst hy; simp [ho, Op.operands]
        · rw [evT_congr (hl x (by simp [ho, Op.operands]))]
          exact h2 m' K' (fun b hb => hm b (by simp only [footOf, ho]; exact List.mem_flatMap.2 ⟨x, by simp [Op.operands], refs_evT hb⟩)) hk
      · exact h.elim
  · rename_i t x ho
    split at h
    · rename_i ti hti
      split at h
      · rename_i hk'
        split at h
        · rename_i s hx
          refine ⟨_, _, _, _, h, fun l' m' K' hl hm hft hk => ?_⟩
          unfold opW; rw [ho]; simp only
          rw [hti]; simp only
          rw [hk']; simp only
          rw [hl x (by simp [ho, Op.operands]), hx]; exact hk
        · exact h.elim
      · exact h.elim
    · exact h.elim
  · rename_i x str ho
    split at h
    · obtain ⟨v, upd, ft, h1, h2⟩ := loc_next h
      refine ⟨_, _, _, _, h1, fun l' m' K' hl hm hft hk => ?_⟩
      unfold opW; rw [ho]; simp only
      rw [hl x (by simp [ho, Op.operands])]
      exact h2 m' (fun v upd ft => K' v upd n ft) (fun b hb => hm b (by simp [footOf, ho, Op.operands, hb])) hk
    · exact h.elim
  · rename_i fn first captured ho
    split at h
    · rename_i f
      split at h
      · exact h.elim
      · rename_i hbl
        split at h
        · rename_i hf
          split at h
          · rename_i caps hc
            refine ⟨_, _, _, _, h, fun l' m' K' hl hm hft hk => ?_⟩
            unfold opW; rw [ho]; simp only
            rw [hbl]; simp only
            rw [hf]; simp only
            have e : captured.toList.map (ev l') = captured.toList.map (ev l) := List.map_congr_left fun y hy => hl y (by simp [ho, Op.operands] at hy ⊢; exact .inr hy)
            rw [e, hc]; exact hk
          · exact h.elim
        · rename_i x xs hf
          split at h
          · rename_i hcp
            split at h
            · rename_i caps hc
              refine ⟨_, _, _, _, h, fun l' m' K' hl hm hft hk => ?_⟩
              unfold opW; rw [ho]; simp only
              rw [hbl]; simp only
              rw [hf]; simp only
              rw [hcp]; simp only
              have e : (x :: xs).map (ev l') = (x :: xs).map (ev l) := List.map_congr_left fun y hy => hl y (by rw [← hf] at hy; simp [ho, Op.operands] at hy ⊢; exact .inl hy)
              rw [e, hc]; exact hk
            · exact h.elim
          · exact h.elim
    · exact h.elim
  · rename_i t parts ho
    split at h
    · rename_i ti hti
      obtain ⟨v, h1, h2⟩ := build_det h
      refine ⟨_, _, _, _, h1, fun l' m' K' hl hm hft hk => ?_⟩
      unfold opW; rw [ho]; simp only
      rw [hti]
      refine h2 l' (fun v => K' v [] n []) (fun p hp => hl p.2 ?_) hk
      simp only [ho, Op.operands]
      exact List.mem_map.2 ⟨p, hp, rfl⟩
    · exact h.elim
  · rename_i t x f ho
    split at h
    · rename_i ti hti
      obtain ⟨v, h1, h2⟩ := fieldV_det h
      refine ⟨_, _, _, _, h1, fun l' m' K' hl hm hft hk => ?_⟩
      unfold opW; rw [ho]; simp only
      rw [hti, hl x (by simp [ho, Op.operands])]
      exact h2 (fun v => K' v [] n []) hk
    · exact h.elim
  · rename_i t len parts ho
    split at h
    · rename_i ti hti
      obtain ⟨v, upd, n', ft, h1, h2⟩ := buildS_loc h
      refine ⟨_, _, _, _, h1, fun l' m' K' hl hm hft hk => ?_⟩
      unfold opW; rw [ho]; simp only
      rw [hti]
      refine h2 l' m' K' (fun p hp => hl p.2 ?_) (fun p hp b hb => hm b ?_) hk
      · simp only [ho, Op.operands]
        exact List.mem_map.2 ⟨p, hp, rfl⟩
      · simp only [footOf, ho, Op.operands]
        exact List.mem_flatMap.2 ⟨p.2, List.mem_map.2 ⟨p, hp, rfl⟩, hb⟩
    · exact h.elim
  · rename_i t x y ho
    split at h
    · rename_i ti hti
      split at h
      · rename_i k1 p hx
        split at h
        · rename_i k2 q hy
          obtain ⟨v, upd, n', ft, h1, h2⟩ := make_det h
          refine ⟨_, _, _, _, h1, fun l' m' K' hl hm hft hk => ?_⟩
          unfold opW; rw [ho]; simp only
          rw [hti]; simp only
          rw [hl x (by simp [ho, Op.operands]), hx]; simp only
          rw [hl y (by simp [ho, Op.operands]), hy]; simp only
          exact h2 K' hk
        · exact h.elim
      · exact h.elim
    · exact h.elim
  · rename_i ts td x ho
    split at h
    · rename_i tis hs
      split at h
      · rename_i tid hd
        obtain ⟨v, h1, h2⟩ := conv_det h
        refine ⟨_, _, _, _, h1, fun l' m' K' hl hm hft hk => ?_⟩
        unfold opW; rw [ho]; simp only
        rw [hs]; simp only
        rw [hd]; simp only
        rw [hl x (by simp [ho, Op.operands])]
        exact h2 (fun v => K' v [] n []) hk
      · exact h.elim
    · exact h.elim
  · rename_i x i ho
    split at h
    · rename_i ts hx
      split at h
      · rename_i cs hi
        refine ⟨_, _, _, _, h, fun l' m' K' hl hm hft hk => ?_⟩
        unfold opW; rw [ho]; simp only
        rw [hl x (by simp [ho, Op.operands]), hx]; simp only
        rw [hi]; exact hk
      · rename_i c hi
        refine ⟨_, _, _, _, h, fun l' m' K' hl hm hft hk => ?_⟩
        unfold opW; rw [ho]; simp only
        rw [hl x (by simp [ho, Op.operands]), hx]; simp only
        rw [hi]; exact hk
      · exact h.elim
    · exact h.elim
  · rename_i x ho
    split at h
    · rename_i b off hx
      split at h
      · rename_i tb cs hb
        refine ⟨_, _, _, _, h, fun l' m' K' hl hm hft hk => ?_⟩
        unfold opW; rw [ho]; simp only
        rw [hl x (by simp [ho, Op.operands]), hx]; simp only
        rw [hm b (by simp [footOf, ho, Op.operands, hx, refsS, refsC]), hb]; exact hk
      · exact h.elim
    · rename_i ds hx
      refine ⟨_, _, _, _, h, fun l' m' K' hl hm hft hk => ?_⟩
      unfold opW; rw [ho]; simp only
      rw [hl x (by simp [ho, Op.operands]), hx]; exact hk
    · rename_i b i off hx
      split at h
      · rename_i t sz rs hb
        refine ⟨_, _, _, _, h, fun l' m' K' hl hm hft hk => ?_⟩
        unfold opW; rw [ho]; simp only
        rw [hl x (by simp [ho, Op.operands]), hx]; simp only
        rw [hm b (by simp [footOf, ho, Op.operands, hx, refsS, refsC]), hb]; exact hk
      · exact h.elim
    · exact h.elim
  · rename_i t x k ok ho
    obtain ⟨v, upd, n', ft, h1, h2⟩ := loc_lookup h
    refine ⟨_, _, _, _, h1, fun l' m' K' hl hm hft hk => ?_⟩
    unfold opW; rw [ho]; simp only
    exact h2 l' m' K' (hl x (by simp [ho, Op.operands])) (hl k (by simp [ho, Op.operands])) (fun b hb => hm b (by simp [footOf, ho, Op.operands, hb])) hk
  · rename_i t x k y ho
    obtain ⟨v, upd, n', ft, h1, h2⟩ := loc_insert h
    refine ⟨_, _, _, _, h1, fun l' m' K' hl hm hft hk => ?_⟩
    unfold opW; rw [ho]; simp only
    exact h2 l' m' K' (hl x (by simp [ho, Op.operands])) (hl k (by simp [ho, Op.operands])) (hl y (by simp [ho, Op.operands])) (fun b hb => hm b (by simp [footOf, ho, Op.operands, hb])) hk
  · rename_i t x k y ho
    obtain ⟨v, upd, n', ft, h1, h2⟩ := loc_insert h
    refine ⟨_, _, _, _, h1, fun l' m' K' hl hm hft hk => ?_⟩
    unfold opW; rw [ho]; simp only
    exact h2 l' m' K' (hl x (by simp [ho, Op.operands])) (hl k (by simp [ho, Op.operands])) (hl y (by simp [ho, Op.operands])) (fun b hb => hm b (by simp [footOf, ho, Op.operands, hb])) hk
  · rename_i t x ho
    split at h
    · rename_i ti hti
      split at h
      · rename_i c e hkk
        split at h
        · rename_i te hte
          split at h
          · exact h.elim
          · rename_i h0
            split at h
            · rename_i sz rows hx
              split at h
              · rename_i hb
                refine ⟨_, _, _, _, h.2, fun l' m' K' hl hm hft hk => ?_⟩
                unfold opW; rw [ho]; simp only
                rw [hti]; simp only
                rw [hkk]; simp only
                rw [hte]; simp only
                rw [h0]; simp only
                rw [hl x (by simp [ho, Op.operands]), hx]; simp only
                rw [hb]; exact ⟨h.1, hk⟩
              · exact h.elim
            · exact h.elim
        · exact h.elim
      · exact h.elim
    · exact h.elim
  · rename_i c ho
    have mem : ∀ x ∈ c.args.toList, x ∈ o.op.operands.toList := fun x hx => by simp [ho, Op.operands, Call.operands]; exact .inr (by simpa using hx)
    split at h
    · rename_i hc
      split at h
      · rename_i x ha
        split at h
        · rename_i t ts ht
          split at h
          · rename_i ti hti
            obtain ⟨i, ft, h1, h2⟩ := loc_len h
            refine ⟨_, _, _, _, h1, fun l' m' K' hl hm hft hk => ?_⟩
            unfold opW; rw [ho]; simp only
            rw [hc]; simp only
            rw [ha]; simp only
            rw [ht]; simp only
            rw [hti, hl x (mem x (by simp [ha]))]
            refine h2 m' (fun i ft => K' (.one (.dv (.int .i64 i))) [] n ft) (fun b hb => hm b ?_) hk
            simp only [footOf, ho]
            exact List.mem_flatMap.2 ⟨x, by rw [← ho]; exact mem x (by simp [ha]), hb⟩
          · exact h.elim
        · exact h.elim
      · exact h.elim
    · rename_i hc
      split at h
      · rename_i x y ha
        split at h
        · rename_i t t' ht
          split at h
          · exact h.elim
          · rename_i htt
            split at h
            · rename_i ti hti
              obtain ⟨v, upd, n', ft, h1, h2⟩ := append_loc h
              refine ⟨_, _, _, _, h1, fun l' m' K' hl hm hft hk => ?_⟩
              unfold opW; rw [ho]; simp only
              rw [hc]; simp only
              rw [ha]; simp only
              rw [ht]; simp only
              rw [htt]; simp only
              rw [hti]; simp only
              rw [evT_congr (hl x (mem x (by simp [ha]))), evT_congr (hl y (mem y (by simp [ha])))]
              refine h2 m' K' (fun b hb => hm b ?_) (fun b hb => hm b ?_) hk
              · simp only [footOf, ho]
                exact List.mem_flatMap.2 ⟨x, by rw [← ho]; exact mem x (by simp [ha]), refs_evT hb⟩
              · simp only [footOf, ho]
                exact List.mem_flatMap.2 ⟨y, by rw [← ho]; exact mem y (by simp [ha]), refs_evT hb⟩
            · exact h.elim
        · exact h.elim
      · exact h.elim
    · rename_i hc
      split at h
      · rename_i x y ha
        split at h
        · rename_i t t' ht
          split at h
          · rename_i ti hti
            obtain ⟨v, upd, n', ft, h1, h2⟩ := loc_copy h
            refine ⟨_, _, _, _, h1, fun l' m' K' hl hm hft hk => ?_⟩
            unfold opW; rw [ho]; simp only
            rw [hc]; simp only
            rw [ha]; simp only
            rw [ht]; simp only
            rw [hti]; simp only
            rw [evT_congr (hl x (mem x (by simp [ha]))), evT_congr (hl y (mem y (by simp [ha])))]
            refine h2 m' K' (fun b hb => hm b ?_) (fun b hb => hm b ?_) hk
            · simp only [footOf, ho]
              exact List.mem_flatMap.2 ⟨x, by rw [← ho]; exact mem x (by simp [ha]), refs_evT hb⟩
            · simp only [footOf, ho]
              exact List.mem_flatMap.2 ⟨y, by rw [← ho]; exact mem y (by simp [ha]), refs_evT hb⟩
          · exact h.elim
        · exact h.elim
      · exact h.elim
    · rename_i hc
      split at h
      · rename_i x y ha
        split at h
        · rename_i k p hx
          split at h
          · rename_i k' q hy
            refine ⟨_, _, _, _, h, fun l' m' K' hl hm hft hk => ?_⟩
            unfold opW; rw [ho]; simp only
            rw [hc]; simp only
            rw [ha]; simp only
            rw [hl x (mem x (by simp [ha])), hx]; simp only
            rw [hl y (mem y (by simp [ha])), hy]; exact hk
          · exact h.elim
        · exact h.elim
      · rename_i x y z u ha
        obtain ⟨k, k2, k3, k4, p, q, r, s, hx, hy, hz, hu, h⟩ := int4_ok h
        refine ⟨_, _, _, _, h, fun l' m' K' hl hm hft hk => ?_⟩
        unfold opW; rw [ho]; simp only
        rw [hc]; simp only
        rw [ha]; simp only
        exact int4_mk ((hl x (mem x (by simp [ha]))).trans hx) ((hl y (mem y (by simp [ha]))).trans hy) ((hl z (mem z (by simp [ha]))).trans hz) ((hl u (mem u (by simp [ha]))).trans hu) hk
      · exact h.elim
    · rename_i hc
      split at h
      · rename_i x y ha
        split at h
        · rename_i k p hx
          split at h
          · rename_i k' q hy
            refine ⟨_, _, _, _, h, fun l' m' K' hl hm hft hk => ?_⟩
            unfold opW; rw [ho]; simp only
            rw [hc]; simp only
            rw [ha]; simp only
            rw [hl x (mem x (by simp [ha])), hx]; simp only
            rw [hl y (mem y (by simp [ha])), hy]; exact hk
          · exact h.elim
        · exact h.elim
      · rename_i x y z u ha
        obtain ⟨k, k2, k3, k4, p, q, r, s, hx, hy, hz, hu, h⟩ := int4_ok h
        refine ⟨_, _, _, _, h, fun l' m' K' hl hm hft hk => ?_⟩
        unfold opW; rw [ho]; simp only
        rw [hc]; simp only
        rw [ha]; simp only
        exact int4_mk ((hl x (mem x (by simp [ha]))).trans hx) ((hl y (mem y (by simp [ha]))).trans hy) ((hl z (mem z (by simp [ha]))).trans hz) ((hl u (mem u (by simp [ha]))).trans hu) hk
      · exact h.elim
    · rename_i fop hc
      split at h
      · rename_i f caps hf
        have memf : fop ∈ o.op.operands.toList := by simp [ho, Op.operands, Call.operands, hc]
        have hcaps : ∀ b, b ∈ (caps.map fun p => SV.one (.vptr p.1 p.2)).flatMap refsS → b ∈ footOf o l := fun b hb => by
          simp only [footOf, ho]
          rw [← ho]
          refine List.mem_flatMap.2 ⟨fop, memf, ?_⟩
          rw [hf]
          obtain ⟨v, hv, hb⟩ := List.mem_flatMap.1 hb
          obtain ⟨p, hp, rfl⟩ := List.mem_map.1 hv
          simp only [refsS, refsC, List.mem_singleton] at hb
          subst hb
          exact List.mem_map.2 ⟨p, hp, rfl⟩
        have hev : ∀ b, b ∈ (evTs T l c.argTypes.toList c.args.toList).flatMap refsS → b ∈ footOf o l := fun b hb => by
          simp only [footOf, ho]
          rw [← ho]
          obtain ⟨x, hx, hb⟩ := refs_evTs _ _ hb
          exact List.mem_flatMap.2 ⟨x, mem x hx, hb⟩
        split at h
        · rename_i hbl
          obtain ⟨v, upd, n', ft, h1, h2⟩ := loc_call h
          refine ⟨_, _, _, _, h1, fun l' m' K' hl hm hft hk => ?_⟩
          unfold opW; rw [ho]; simp only
          rw [hc]; simp only
          rw [hl fop memf, hf]; simp only
          rw [hbl]; simp only
          rw [evTs_congr _ _ fun x hx => hl x (mem x hx)]
          refine h2 m' K' (fun b hb => hm b ?_) hft hk
          rw [List.flatMap_append] at hb
          rcases List.mem_append.1 hb with hb | hb
          · exact hev b hb
          · exact hcaps b hb
        · rename_i hbl
          obtain ⟨v, upd, n', ft, h1, h2⟩ := loc_call h
          refine ⟨_, _, _, _, h1, fun l' m' K' hl hm hft hk => ?_⟩
          unfold opW; rw [ho]; simp only
          rw [hc]; simp only
          rw [hl fop memf, hf]; simp only
          rw [hbl]; simp only
          rw [evTs_congr _ _ fun x hx => hl x (mem x hx)]
          refine h2 m' K' (fun b hb => hm b ?_) hft hk
          rw [List.flatMap_append] at hb
          rcases List.mem_append.1 hb with hb | hb
          · exact hcaps b hb
          · exact hev b hb
      · exact h.elim
    · exact h.elim
  · exact h.elim
end Eng
