import Derived.Test.YtopcjmipldkijaaM1
/- task: Actions, Apply, Reached. -/
namespace Go.Proofs.Ytopcjmipldkijaa
open Eng
set_option maxRecDepth 10000
attribute [local irreducible] FnOk loopW idxF retX arrF findF

abbrev pad (n : Nat) : List Int := List.replicate n (-1048577)
theorem idx_pad {x : Int} (hx : x ≠ -1048577) : ∀ (m : List Int) (n k : Nat), idxI x (m ++ pad n) k = idxI x m k
  | [], 0, _ => rfl
  | [], n + 1, k => by
    have ih := idx_pad hx [] n (k + 1)
    show idxI x ((-1048577) :: pad n) k = -1
    rw [idxI, if_neg (fun e => hx e.symm)]
    exact ih
  | y :: m, n, k => by
    show idxI x (y :: (m ++ pad n)) k = _
    rw [idxI, idxI, idx_pad hx m n (k + 1)]
theorem idx_of {m : List Int} (hm : m.length ≤ 6) {x : Int} (hx : x ≠ -1048577) : idxI x (P6.of m).l 0 = objAt m x := by rw [P6.l_of hm, idx_pad hx]; rfl
theorem meets_pad : ∀ {m g : List Int} (n : Nat), g.length ≤ m.length → meets (m ++ pad n) g = meets m g
  | [], [], n, _ => by cases n <;> rfl
  | [], _ :: _, _, h => by simp at h
  | x :: m, [], n, _ => rfl
  | x :: m, y :: g, n, h => by
    show ((decide (y = -1048576) || decide (y = x)) && meets (m ++ pad n) g) = _
    rw [meets, meets_pad n (by simpa using h)]
theorem getD_pad (m : List Int) (n i : Nat) : (m ++ pad n).getD i (-1048577) = m.getD i (-1048577) := by
  rw [List.getD_eq_getElem?_getD, List.getD_eq_getElem?_getD]
  by_cases h : i < m.length
  · rw [List.getElem?_append_left h]
  · rw [List.getElem?_append_right (by omega), List.getElem?_eq_none (l := m) (by omega)]
    rw [List.getElem?_replicate]
    split <;> rfl
theorem of_pad (m : List Int) (n : Nat) : P6.of (m ++ pad n) = P6.of m := by
  simp only [P6.of, getD_pad]
theorem of_inj {a b : List Int} (ha : a.length ≤ 6) (hl : a.length = b.length) (h : P6.of a = P6.of b) : a = b := by
  have e : (P6.of a).l = (P6.of b).l := by rw [h]
  rw [P6.l_of ha, P6.l_of (by omega)] at e
  exact (List.append_inj e hl).1
theorem can_kind1 {w : TWork} {m : List Int} {h p : Nat} (hh : h < w.hands.length) (hp : p < w.places.length) : canB w m ⟨1, h, p⟩ = (gripped w h p && (decide (objAt m (-1 - h) < 0) && decide (0 ≤ objAt m p))) := by
  have hk : knownB w h p = true := by simp [knownB]; omega
  have e : (!decide (0 ≤ objAt m (-1 - (h : Int)))) = decide (objAt m (-1 - (h : Int)) < 0) := by rw [Bool.eq_iff_iff]; simp
  show (knownB w h p && gripped w h p && canK m ⟨1, h, p⟩) = _
  rw [hk, canK]
  simp [e]
theorem can_kind2 {w : TWork} {m : List Int} {h p : Nat} (hh : h < w.hands.length) (hp : p < w.places.length) : canB w m ⟨2, h, p⟩ = (gripped w h p && (decide (0 ≤ objAt m (-1 - h)) && decide (objAt m p < 0))) := by
  have hk : knownB w h p = true := by simp [knownB]; omega
  have e : (!decide (0 ≤ objAt m (p : Int))) = decide (objAt m (p : Int) < 0) := by rw [Bool.eq_iff_iff]; simp
  show (knownB w h p && gripped w h p && canK m ⟨2, h, p⟩) = _
  rw [hk, canK]
  simp [e]
theorem doneT_app (k : Int) (p : TAct → Bool) (a b : List TAct) : doneT k p (a ++ b) = doneT k p a ++ doneT k p b := by rw [doneT, List.filter_append, List.map_append]; rfl
theorem doneT_if (k : Int) (p : TAct → Bool) (g : Bool) (a : TAct) : doneT k p (if g then [a] else []) = if g && p a then [withK k a] else [] := by
  cases g with
  | false => rfl
  | true => cases h : p a <;> simp [doneT, h]
theorem row_done {w : TWork} {m : List Int} {k : Int} {p : TAct → Bool} {h : Nat} (hc : ∀ c : Nat, c < w.places.length → canB w m ⟨k, h, c⟩ = (gripped w h c && p ⟨0, h, c⟩)) : ∀ c, c ≤ w.places.length → doneT k p (tRow w h c) = aRow w m k h c
  | 0, _ => rfl
  | c + 1, hle => by
    rw [tRow_succ, doneT_app, row_done hc c (by omega), doneT_if, aRow_succ, hc c (by omega)]; rfl
theorem hands_done {w : TWork} {m : List Int} {k : Int} {p : TAct → Bool} (hc : ∀ h c : Nat, h < w.hands.length → c < w.places.length → canB w m ⟨k, h, c⟩ = (gripped w h c && p ⟨0, h, c⟩)) : ∀ n, n ≤ w.hands.length → doneT k p (tHands w n) = aHands w m k n
  | 0, _ => rfl
  | n + 1, hle => by
    rw [tHands_succ, doneT_app, hands_done hc n (by omega), aHands_succ, row_done (fun c h => hc n c (by omega) h) _ (Nat.le_refl _)]
theorem acts_is {w : TWork} {m : List Int} (h : ValidF w m) : actsT (tableOf w) (P6.of m).l = actsOf w m := by
  have h6 := h.le6
  have hh3 := (sizes_facts h.work).2.2.1
  rw [actsOf, if_pos (valid_iff.2 h), actsT, tableOf]
  congr 1
  · refine hands_done (fun h c hh hc => ?_) _ (Nat.le_refl _)
    rw [can_kind1 hh hc, pickB, idx_of h6 (by simp only; omega), idx_of h6 (by simp only; omega)]
  · refine hands_done (fun h c hh hc => ?_) _ (Nat.le_refl _)
    rw [can_kind2 hh hc, dropB, idx_of h6 (by simp only; omega), idx_of h6 (by simp only; omega)]
theorem from_ne {w : TWork} {m : List Int} {a : TAct} (hc : canB w m a = true) : fromOf a ≠ -1048577 ∨ 1000 < w.hands.length := by
  obtain ⟨f, _, hk⟩ := can_facts hc
  rw [fromOf]
  split <;> omega
theorem from_at {w : TWork} {m : List Int} {a : TAct} (hc : canB w m a = true) : ∃ i : Nat, m[i]? = some (fromOf a) ∧ objAt m (fromOf a) = i := by
  obtain ⟨f, _, hk⟩ := can_facts hc
  have : 0 ≤ objAt m (fromOf a) := by
    rcases canK_kind hk with ⟨k1, k2, k3⟩ | ⟨k1, k2, k3⟩
    · rw [fromOf, if_pos k1]; exact k3
    · rw [fromOf, if_neg (by omega)]; exact k2
  rcases objAt_bd m (fromOf a) with ⟨h1, _⟩ | ⟨i, h1, h2⟩
  · omega
  · exact ⟨i, h1, h2⟩
theorem after_is {w : TWork} {m : List Int} {a : TAct} (h : ValidF w m) (hc : canB w m a = true) : afterP (P6.of m) a = P6.of (setAt m a) ∧ 0 ≤ idxI (fromOf a) (P6.of m).l 0 := by
  have h6 := h.le6
  have hh := (sizes_facts h.work).2.2.1
  have hne : fromOf a ≠ -1048577 := by rcases from_ne hc with h | h; exact h; omega
  obtain ⟨i, h1, h2⟩ := from_at hc
  have hi := (List.getElem?_eq_some_iff.1 h1).1
  rw [afterP, idx_of h6 hne, setAt, h2, Int.toNat_natCast]
  refine ⟨?_, by omega⟩
  rw [P6.l_of h6, List.set_append_left _ _ hi, of_pad]
theorem apply_facts {w : TWork} {m : List Int} {a : TAct} (h : applyB w m a = true) : ValidF w m ∧ canB w m a = true := by
  rw [applyB, Bool.and_eq_true] at h
  exact ⟨valid_iff.1 h.1, h.2⟩
theorem setAt_len (m : List Int) (a : TAct) : (setAt m a).length = m.length := List.length_set
theorem tab_hand {w : TWork} (hh : w.hands.length ≤ 3) : ∀ a ∈ tableOf w, 0 ≤ a.hand ∧ a.hand ≤ 1000 := fun a ha => by
  have := mem_table ha
  omega
theorem tab_len {w : TWork} (hp : w.places.length ≤ 8) (hh : w.hands.length ≤ 3) : (tableOf w).length ≤ 24 := by
  have := tHands_len hp w.hands.length
  rw [tableOf]; omega
theorem task_Actions (w : TWork) (m : List Int) (hm : mild w) : FnOk Try.prog F.task_Actions [Wk w, Md m] [] 0 (.one (.dv (dAcs (actsOf w m)))) [] 0 := by
  refine fnOk tab mix G.task_Actions rfl rfl (by kernel_rfl) rfl rfl ?_
  (conv => whnf)
  refine call_i (grasp_Valid w m hm) ?_
  (conv => whnf)
  refine ask_m (fun h1 => ?_) (fun h1 => ?_)
  · have h1 : validB w m = false := by simpa using h1
    rw [actsOf, if_neg (by rw [h1]; decide)]
    (conv => whnf)
    refine retO [.own 4 Y.Action 3, .frz 2] ?_
    (conv => whnf)
    exact ⟨[], ⟨rfl, trivial⟩, trivial⟩
  have h1 : validB w m = true := by simpa using h1
  have hv := valid_iff.1 h1
  obtain ⟨s1, s2, s3, s4⟩ := sizes_facts hv.work
  have hac := acts_is hv
  (conv => whnf)
  refine call_i (task_newTable w s2 s3 (by omega)) ?_
  (conv => whnf)
  refine call_i (task_placesOf m hv.le6) ?_
  (conv => whnf)
  refine call_i (table_actions (tableOf w) (P6.of m) (by have := tab_len s2 s3; omega) (tab_hand s3)) ?_
  (conv => whnf)
  rw [hac]
  (conv => whnf)
  refine retO [.frz 2] ?_
  (conv => whnf)
  exact ⟨[], ⟨rfl, trivial⟩, trivial⟩
theorem act_Index (l : List TAct) (a : TAct) (hl : l.length ≤ 4611686018427387904) : FnOk Try.prog F.slices_Index_sapi_Action_api_Action [.one (.dv (dAcs l)), Ac a] [] 0 (I (firstP (fun y => decide (a = y)) l 0)) [] 0 := by
  refine fnOk tab mix G.slices_Index_sapi_Action_api_Action rfl rfl (by kernel_rfl) rfl rfl ?_
  (conv => whnf)
  refine loop_intro (fun k : Nat => ⟨[(0, .one (.dv (dAcs l))), (3, .one (.vptr 0 0)), (7, I l.length), (8, I k)], [(0, bAc a)], 1⟩) (fun k => k ≤ l.length ∧ firstP (fun y => decide (a = y)) (l.drop k) k = firstP (fun y => decide (a = y)) l 0) (fun k => l.length - k) [] 0 [] ⟨Nat.zero_le _, rfl⟩ ⟨⟨rfl, rfl, eqI (by simp), rfl, trivial⟩, ⟨rfl, trivial⟩⟩ ?_
  rintro k ⟨hk, hf⟩
  have hkk : IntKind.i64.wrap ((k : Int) + 1) = ((k + 1 : Nat) : Int) := by rw [w64] <;> omega
  (conv => whnf)
  refine ask_m (fun h => ?_) (fun h => ?_)
  · have hlt : k < l.length := by have := of_decide_eq_true h; omega
    obtain ⟨y, hy⟩ : ∃ j, l[k]? = some j := ⟨_, List.getElem?_eq_getElem hlt⟩
    rw [drop_cons hy, firstP] at hf
    (conv => whnf)
    refine idx_and (by omega) (by simpa using hy) ?_
    (conv => whnf)
    refine ⟨cmpAct, ?_⟩
    (conv => whnf)
    rw [act_eq a y]
    refine ask_m (fun h1 => ?_) (fun h1 => ?_)
    · rw [if_pos h1] at hf
      (conv => whnf)
      refine ret0 ?_
      exact ret_i hf rfl
    · rw [if_neg (by rw [h1]; decide)] at hf
      (conv => whnf)
      exact ⟨k + 1, [], ⟨hlt, hf⟩, by omega, ⟨⟨rfl, rfl, rfl, eqI hkk, trivial⟩, ⟨rfl, trivial⟩⟩⟩
  · have hk : k = l.length := by have := of_decide_eq_false h; omega
    subst hk
    rw [List.drop_length, firstP] at hf
    (conv => whnf)
    refine ret0 ?_
    exact ret_i hf rfl
theorem act_Contains (l : List TAct) (a : TAct) (hl : l.length ≤ 4611686018427387904) : FnOk Try.prog F.slices_Contains_sapi_Action_api_Action [.one (.dv (dAcs l)), Ac a] [] 0 (Bo (decide (a ∈ l))) [] 0 := by
  have e : decide (0 ≤ firstP (fun y => decide (a = y)) l 0) = decide (a ∈ l) := by
    rw [firstP_any, Bool.eq_iff_iff, List.any_eq_true, decide_eq_true_eq]
    constructor
    · rintro ⟨y, hy, e⟩; exact of_decide_eq_true e ▸ hy
    · intro h; exact ⟨a, h, by simp⟩
  refine fnOk tab mix G.slices_Contains_sapi_Action_api_Action rfl rfl (by kernel_rfl) rfl rfl ?_
  (conv => whnf)
  refine call_i (act_Index l a hl) ?_
  (conv => whnf)
  (conv => whnf)
  refine ret0 ?_
  exact ret_b e rfl
theorem int_Clone (l : List Int) (hl : l.length ≤ 1099511627776) : FnOk Try.prog F.slices_Clone_sint_int [.one (.dv (.lst 1 (l.map encI)))] [] 0 (.one (.row 0)) [(0, .rows Y.int 1 (l.map encI))] 1 := by
  refine fnOk tab mix G.slices_Clone_sint_int rfl rfl (by kernel_rfl) rfl rfl ?_
  (conv => whnf)
  refine ⟨fun h => ?_, ?_⟩
  · (conv => whnf)
    refine retO [.own 2 Y.int 1] ?_
    (conv => whnf)
    exact ⟨[], ⟨rfl, trivial⟩, ⟨by rw [h]; rfl, trivial⟩⟩
  · (conv => whnf)
    refine ⟨⟨by simp; omega, by simp; omega⟩, ?_⟩
    (conv => whnf)
    (conv => whnf)
    refine retO [] ?_
    (conv => whnf)
    exact ⟨[(0, 1)], ⟨rfl, trivial⟩, ⟨rfl, trivial⟩⟩
theorem enc_one (l : List Int) : (l.map fun x => (DV.int .i64 x)).map (fun d => [d]) = l.map encI := by rw [List.map_map]; rfl
theorem encP_is (p : P6) : encP p = p.l.map fun x => (DV.int .i64 x) := rfl
theorem rows_is (p : P6) (n : Nat) : ((encP p).take n).map (fun d => [d]) = (p.l.take n).map encI := by rw [encP_is, ← List.map_take, enc_one]
theorem take_of {l : List Int} (h : l.length ≤ 6) : (P6.of l).l.take l.length = l := by rw [P6.l_of h, List.take_left']; rfl
theorem task_Apply (w : TWork) (m : List Int) (a : TAct) (hm : mild w) : FnOk Try.prog F.task_Apply [Wk w, Md m, Ac a] [] 0 (ApR (applyM w m a) (applyB w m a)) [] 0 := by
  refine fnOk tab mix G.task_Apply rfl rfl (by kernel_rfl) rfl rfl ?_
  (conv => whnf)
  refine call_i (task_Actions w m hm) ?_
  (conv => whnf)
  refine call_i (act_Contains (actsOf w m) a (by have := acts_len w m; omega)) ?_
  (conv => whnf)
  refine ask_m (fun h1 => ?_) (fun h1 => ?_)
  · have h1 : ¬ a ∈ actsOf w m := by simpa using h1
    have e : applyB w m a = false := by
      cases h : applyB w m a with
      | false => rfl
      | true => exact absurd (mem_acts.2 h) h1
    rw [applyM, if_neg (by rw [e]; decide), e]
    (conv => whnf)
    refine retO [.ownC 3 0 Y.int 1, .frz 4] ?_
    (conv => whnf)
    exact ⟨[], ⟨rfl, trivial⟩, trivial⟩
  have h1 : a ∈ actsOf w m := by simpa using h1
  have e := mem_acts.1 h1
  obtain ⟨hv, hc⟩ := apply_facts e
  obtain ⟨f, _, hk⟩ := can_facts hc
  obtain ⟨s1, s2, s3, s4⟩ := sizes_facts hv.work
  obtain ⟨a1, a2⟩ := after_is hv hc
  have h6 := hv.le6
  have hk12 : a.kind = 1 ∨ a.kind = 2 := by rcases canK_kind hk with h | h; exact .inl h.1; exact .inr h.1
  have hlen := setAt_len m a
  rw [applyM, if_pos e, e]
  (conv => whnf)
  refine call_i (task_placesOf m h6) ?_
  (conv => whnf)
  refine call_i (task_after (P6.of m) a ⟨f.1, by omega⟩ hk12 a2) ?_
  (conv => whnf)
  rw [a1]
  generalize setAt m a = x at *
  refine ⟨⟨by omega, by simp; omega⟩, ?_⟩
  (conv => whnf)
  refine .inl ?_
  have er : (([DV.int .i64 (P6.of x).a, DV.int .i64 (P6.of x).b, DV.int .i64 (P6.of x).c, DV.int .i64 (P6.of x).d, DV.int .i64 (P6.of x).e, DV.int .i64 (P6.of x).f].take ((m.map encI).length : Int).toNat).map fun d => [d]) = x.map encI := by
    have e1 : ((m.map encI).length : Int).toNat = x.length := by simp [hlen]
    rw [e1]
    exact (rows_is (P6.of x) x.length).trans (by rw [take_of (by omega)])
  (conv => whnf)
  rw [er]
  refine call_i (int_Clone x (by omega)) ?_
  (conv => whnf)
  refine ⟨⟨trivial, ⟨flatI _ _, trivial⟩⟩, ?_⟩
  (conv => whnf)
  (conv => whnf)
  refine retO [.frz 6] ?_
  (conv => whnf)
  exact ⟨[], ⟨rfl, trivial⟩, trivial⟩
theorem task_Reached (w : TWork) (m g : List Int) (hm : mild w) (_ : g.length ≤ 4611686018427387904) : FnOk Try.prog F.task_Reached [Wk w, Md m, Li g] [] 0 (Bo (reachedB w m g)) [] 0 := by
  refine fnOk tab mix G.task_Reached rfl rfl (by kernel_rfl) rfl rfl ?_
  (conv => whnf)
  refine call_i (grasp_Valid w m hm) ?_
  (conv => whnf)
  cases h1 : validB w m with
  | false =>
    (conv => whnf)
    (conv => whnf)
    refine ret0 ?_
    exact ret_b (by rw [reachedB, h1]; rfl) rfl
  | true =>
    have hv := valid_iff.1 h1
    have h6 := hv.le6
    have h7 := hv.len
    (conv => whnf)
    refine ask_m (fun h2 => ?_) (fun h2 => ?_)
    · have h2 : g.length = w.objects.length := by simp at h2; omega
      (conv => whnf)
      refine call_i (task_placesOf m h6) ?_
      (conv => whnf)
      refine call_i (places_meet (P6.of m) g (by omega)) ?_
      (conv => whnf)
      (conv => whnf)
      refine ret0 ?_
      exact ret_b (by rw [reachedB, h1, decide_eq_true h2, P6.l_of h6, meets_pad _ (by omega)]; rfl) rfl
    · have h2 : ¬ g.length = w.objects.length := by simp at h2; omega
      (conv => whnf)
      (conv => whnf)
      refine ret0 ?_
      exact ret_b (by rw [reachedB, h1, decide_eq_false h2]; rfl) rfl
end Go.Proofs.Ytopcjmipldkijaa

/- The search of chapter 38 as a plain function: nodes in the order in which they are found. -/
namespace Go.Proofs.Ytopcjmipldkijaa
open Eng
set_option maxRecDepth 10000

structure Nd where
  mode : List Int
  bef : Int
  act : TAct
  dep : Int
  bm : List Int
def root (m : List Int) : Nd := ⟨m, -1, ⟨0, 0, 0⟩, 0, [0, 0, 0, 0, 0, 0]⟩
def seenB (ns : List Nd) (m : List Int) : Bool := ns.any fun n => decide (n.mode = m)
def child (i : Nat) (m : List Int) (d : Int) (a : TAct) : Nd := ⟨setAt m a, i, a, d + 1, m⟩
def addN (bs : List TBan) (i : Nat) (m : List Int) (d : Int) (ns : List Nd) (a : TAct) : List Nd :=
  if bannedB bs m a || seenB ns (setAt m a) then ns else ns ++ [child i m d a]
def grow (bs : List TBan) (i : Nat) (m : List Int) (d : Int) (ns : List Nd) (al : List TAct) : List Nd := al.foldl (addN bs i m d) ns
/-- the actions that led to a node of a given depth -/
def wayTo (ns : List Nd) : Nat → Nat → List TAct
  | 0, _ => []
  | d + 1, k => match ns[k]? with
    | some nd => wayTo ns d nd.bef.toNat ++ [nd.act]
    | none => []
def runS (w : TWork) (g : List Int) (lim : Int) (bs : List TBan) : Nat → Nat → List Nd → Option (List TAct)
  | 0, _, _ => none
  | f + 1, i, ns => match ns[i]? with
    | none => none
    | some nd => if meets nd.mode g then some (wayTo ns nd.dep.toNat i) else runS w g lim bs f (i + 1) (if nd.dep = lim then ns else grow bs i nd.mode nd.dep ns (actsOf w nd.mode))
abbrev lots : Nat := 1771561
def askB (w : TWork) (m g : List Int) (lim : Int) : Bool := validB w m && decide (g.length = w.objects.length) && decide (0 ≤ lim) && decide (lim ≤ 16)
def solveR (w : TWork) (m g : List Int) (lim : Int) (bs : List TBan) : Option (List TAct) :=
  if askB w m g lim then runS w g lim bs (lots + 1) 0 [root m] else none

/- what a mode becomes is a mode -/
theorem to_not {m : List Int} {a : TAct} (h : canK m a = true) : toOf a ∉ m := by
  rcases canK_kind h with ⟨k1, k2, k3⟩ | ⟨k1, k2, k3⟩
  · rw [toOf, if_pos k1]
    intro hx
    have := objAt_has.2 hx
    omega
  · rw [toOf, if_neg (by omega)]
    intro hx
    have := objAt_has.2 hx
    omega
theorem nodup_set {x : Int} : ∀ {l : List Int}, l.Nodup → x ∉ l → ∀ i, (l.set i x).Nodup
  | [], h, _, _ => by simp
  | y :: l, h, hx, i => by
    rw [List.nodup_cons] at h
    have hx1 : x ≠ y := fun e => hx (by simp [e])
    have hx2 : x ∉ l := fun e => hx (by simp [e])
    cases i with
    | zero => rw [List.set_cons_zero, List.nodup_cons]; exact ⟨hx2, h.2⟩
    | succ i =>
      rw [List.set_cons_succ, List.nodup_cons]
      refine ⟨fun hy => ?_, nodup_set h.2 hx2 i⟩
      rcases List.mem_or_eq_of_mem_set hy with hy | hy
      · exact h.1 hy
      · exact hx1 hy.symm
theorem valid_set {w : TWork} {m : List Int} {a : TAct} (h : ValidF w m) (hc : canB w m a = true) : ValidF w (setAt m a) := by
  obtain ⟨f, _, hk⟩ := can_facts hc
  refine ⟨h.work, by rw [setAt_len]; exact h.len, fun x hx => ?_, nodup_set h.nd (to_not hk) _⟩
  rcases List.mem_or_eq_of_mem_set hx with hx | rfl
  · exact h.rng x hx
  · rw [toOf]
    split <;> omega
/- how many modes there are -/
def codeOf : List Int → Nat
  | [] => 0
  | x :: l => (x + 3).toNat + 11 * codeOf l
theorem code_lt : ∀ {l : List Int}, (∀ x ∈ l, -3 ≤ x ∧ x < 8) → codeOf l < 11 ^ l.length
  | [], _ => by decide
  | x :: l, h => by
    have ih := code_lt (l := l) fun y hy => h y (by simp [hy])
    have := h x (by simp)
    rw [codeOf, List.length_cons, Nat.pow_succ]
    omega
theorem code_inj : ∀ {a b : List Int}, a.length = b.length → (∀ x ∈ a, -3 ≤ x ∧ x < 8) → (∀ x ∈ b, -3 ≤ x ∧ x < 8) → codeOf a = codeOf b → a = b
  | [], [], _, _, _, _ => rfl
  | x :: a, y :: b, hl, ha, hb, h => by
    have h1 := ha x (by simp)
    have h2 := hb y (by simp)
    rw [codeOf, codeOf] at h
    have e : codeOf a = codeOf b := by omega
    rw [code_inj (by simpa using hl) (fun z hz => ha z (by simp [hz])) (fun z hz => hb z (by simp [hz])) e]
    congr 1
    omega
theorem nodup_bound : ∀ (n : Nat) (l : List Nat), l.Nodup → (∀ x ∈ l, x < n) → l.length ≤ n
  | 0, l, _, h => by
    cases l with
    | nil => simp
    | cons x l => exact absurd (h x (by simp)) (by omega)
  | n + 1, l, hn, h => by
    have h1 := nodup_bound n (l.erase n) (hn.erase n) fun x hx => by
      have h2 := h x (List.mem_of_mem_erase hx)
      have h3 : x ≠ n := fun e => by
        subst e
        exact hn.not_mem_erase hx
      omega
    have h2 := List.length_erase_of_mem (a := n) (l := l)
    by_cases hm : n ∈ l
    · rw [h2 hm] at h1
      omega
    · rw [List.erase_of_not_mem hm] at h1
      omega
theorem modes_bound {w : TWork} {l : List (List Int)} (hn : l.Nodup) (h : ∀ m ∈ l, ValidF w m) : l.length ≤ lots := by
  have h1 : (l.map codeOf).Nodup := by
    rw [List.Nodup, List.pairwise_map]
    refine List.Pairwise.imp_of_mem (fun {a b} ha hb hab e => ?_) hn
    have va := h a ha
    have vb := h b hb
    exact hab (code_inj (by rw [va.len, vb.len]) (fun x hx => va.small hx) (fun x hx => vb.small hx) e)
  have h2 := nodup_bound lots (l.map codeOf) h1 fun c hc => by
    obtain ⟨m, hm, rfl⟩ := List.mem_map.1 hc
    have v := h m hm
    have := code_lt (l := m) fun x hx => v.small hx
    have : 11 ^ m.length ≤ 11 ^ 6 := Nat.pow_le_pow_right (by decide) v.le6
    have e : (11 : Nat) ^ 6 = lots := by decide
    omega
  rwa [List.length_map] at h2
/- what the nodes are -/
structure WfN (w : TWork) (m0 : List Int) (lim : Int) (bs : List TBan) (ns : List Nd) : Prop where
  val : ∀ (k : Nat) (nd : Nd), ns[k]? = some nd → ValidF w nd.mode ∧ 0 ≤ nd.dep ∧ nd.dep ≤ lim
  rt : ns[0]? = some (root m0)
  bk : ∀ (k : Nat) (nd : Nd), ns[k]? = some nd → 0 < k → ∃ (b : Nat) (nb : Nd), b < k ∧ ns[b]? = some nb ∧ nd = child b nb.mode nb.dep nd.act ∧ nd.act ∈ actsOf w nb.mode ∧ bannedB bs nb.mode nd.act = false
  mono : ∀ (j k : Nat) (x y : Nd), ns[j]? = some x → ns[k]? = some y → j ≤ k → x.dep ≤ y.dep
  nd : (ns.map Nd.mode).Nodup
theorem WfN.le {w : TWork} {m0 : List Int} {lim : Int} {bs : List TBan} {ns : List Nd} (h : WfN w m0 lim bs ns) : ns.length ≤ lots := by
  have := modes_bound h.nd (w := w) fun m hm => by
    obtain ⟨nd, hnd, rfl⟩ := List.mem_map.1 hm
    obtain ⟨k, hk⟩ := List.getElem?_of_mem hnd
    exact (h.val k nd hk).1
  rwa [List.length_map] at this
theorem wf_root {w : TWork} {m0 : List Int} {lim : Int} {bs : List TBan} (h : ValidF w m0) (hl : 0 ≤ lim) : WfN w m0 lim bs [root m0] where
  val k nd hk := by
    cases k with
    | zero => simp at hk; subst hk; exact ⟨h, by simp [root], by simpa [root] using hl⟩
    | succ k => simp at hk
  rt := rfl
  bk k nd hk h0 := by
    cases k with
    | zero => omega
    | succ k => simp at hk
  mono j k x y hj hk _ := by
    cases j <;> cases k <;> simp at hj hk
    subst hj hk
    exact Int.le_refl _
  nd := by simp
theorem seen_iff {ns : List Nd} {m : List Int} : seenB ns m = true ↔ m ∈ ns.map Nd.mode := by
  rw [seenB, List.any_eq_true, List.mem_map]
  constructor
  · rintro ⟨n, h, e⟩; exact ⟨n, h, of_decide_eq_true e⟩
  · rintro ⟨n, h, e⟩; exact ⟨n, h, decide_eq_true e⟩
theorem get_snoc {α : Type} {l : List α} {x y : α} {k : Nat} (h : (l ++ [x])[k]? = some y) : l[k]? = some y ∨ k = l.length ∧ y = x := by
  by_cases hk : k < l.length
  · rw [List.getElem?_append_left hk] at h; exact .inl h
  · rw [List.getElem?_append_right (by omega)] at h
    by_cases e : k - l.length = 0
    · rw [e] at h; simp at h; exact .inr ⟨by omega, h.symm⟩
    · rw [List.getElem?_eq_none (by simp; omega)] at h; cases h
theorem get_pre {α : Type} {l t : List α} {x : α} {k : Nat} (h : l[k]? = some x) : (l ++ t)[k]? = some x := by
  rw [List.getElem?_append_left (List.getElem?_eq_some_iff.1 h).1]; exact h
/-- one more node: the depths that stand are at most one more than that of the node whose turn it is -/
theorem wf_snoc {w : TWork} {m0 : List Int} {lim : Int} {bs : List TBan} {ns : List Nd} (h : WfN w m0 lim bs ns) {i : Nat} {nd : Nd} (hi : ns[i]? = some nd) (hd : nd.dep ≠ lim) (hm : ∀ (k : Nat) (x : Nd), ns[k]? = some x → x.dep ≤ nd.dep + 1) {a : TAct} (ha : a ∈ actsOf w nd.mode) (hb : bannedB bs nd.mode a = false) (hs : seenB ns (setAt nd.mode a) = false) : WfN w m0 lim bs (ns ++ [child i nd.mode nd.dep a]) where
  val k x hk := by
    rcases get_snoc hk with hk | ⟨_, rfl⟩
    · exact h.val k x hk
    · obtain ⟨v1, v2, v3⟩ := h.val i nd hi
      have := apply_facts (mem_acts.1 ha)
      exact ⟨valid_set v1 this.2, by simp only [child]; omega, by simp only [child]; omega⟩
  rt := get_pre h.rt
  bk k x hk h0 := by
    rcases get_snoc hk with hk | ⟨rfl, rfl⟩
    · obtain ⟨b, nb, h1, h2, h3⟩ := h.bk k x hk h0
      exact ⟨b, nb, h1, get_pre h2, h3⟩
    · exact ⟨i, nd, (List.getElem?_eq_some_iff.1 hi).1, get_pre hi, rfl, ha, hb⟩
  mono j k x y hj hk hjk := by
    rcases get_snoc hk with hk | ⟨rfl, rfl⟩
    · rcases get_snoc hj with hj | ⟨rfl, rfl⟩
      · exact h.mono j k x y hj hk hjk
      · have := (List.getElem?_eq_some_iff.1 hk).1
        omega
    · rcases get_snoc hj with hj | ⟨_, rfl⟩
      · exact hm j x hj
      · exact Int.le_refl _
  nd := by
    rw [List.map_append, List.nodup_append]
    refine ⟨h.nd, by simp, fun x hx y hy e => ?_⟩
    simp only [List.map_cons, List.map_nil, List.mem_singleton] at hy
    subst hy e
    have := (seen_iff.2 hx : seenB ns (setAt nd.mode a) = true)
    rw [hs] at this
    cases this
/-- what is true while the actions of node i are gone through -/
structure Mid (w : TWork) (m0 : List Int) (lim : Int) (bs : List TBan) (i : Nat) (nd : Nd) (ns : List Nd) : Prop where
  wf : WfN w m0 lim bs ns
  at_ : ns[i]? = some nd
  lt : nd.dep ≠ lim
  mx : ∀ (k : Nat) (x : Nd), ns[k]? = some x → x.dep ≤ nd.dep + 1
theorem mid_add {w : TWork} {m0 : List Int} {lim : Int} {bs : List TBan} {i : Nat} {nd : Nd} {ns : List Nd} (h : Mid w m0 lim bs i nd ns) {a : TAct} (ha : a ∈ actsOf w nd.mode) : Mid w m0 lim bs i nd (addN bs i nd.mode nd.dep ns a) := by
  rw [addN]
  split
  · exact h
  · rename_i hn
    have hn : bannedB bs nd.mode a = false ∧ seenB ns (setAt nd.mode a) = false := by simpa using hn
    refine ⟨wf_snoc h.wf h.at_ h.lt h.mx ha hn.1 hn.2, get_pre h.at_, h.lt, fun k x hk => ?_⟩
    rcases get_snoc hk with hk | ⟨_, rfl⟩
    · exact h.mx k x hk
    · exact Int.le_refl _
theorem mid_grow {w : TWork} {m0 : List Int} {lim : Int} {bs : List TBan} {i : Nat} {nd : Nd} : ∀ {al : List TAct} {ns : List Nd}, Mid w m0 lim bs i nd ns → (∀ a ∈ al, a ∈ actsOf w nd.mode) → Mid w m0 lim bs i nd (grow bs i nd.mode nd.dep ns al)
  | [], _, h, _ => h
  | a :: al, ns, h, ha => mid_grow (al := al) (mid_add h (ha a (by simp))) fun b hb => ha b (by simp [hb])
theorem add_pre (bs : List TBan) (i : Nat) (m : List Int) (d : Int) (ns : List Nd) (a : TAct) : ∃ t, addN bs i m d ns a = ns ++ t := by
  rw [addN]; split
  · exact ⟨[], by simp⟩
  · exact ⟨_, rfl⟩
theorem grow_pre (bs : List TBan) (i : Nat) (m : List Int) (d : Int) : ∀ (al : List TAct) (ns : List Nd), ∃ t, grow bs i m d ns al = ns ++ t
  | [], ns => ⟨[], by simp [grow]⟩
  | a :: al, ns => by
    obtain ⟨t, ht⟩ := add_pre bs i m d ns a
    obtain ⟨t2, h2⟩ := grow_pre bs i m d al (addN bs i m d ns a)
    exact ⟨t ++ t2, by rw [← List.append_assoc, ← ht]; exact h2⟩
/-- the state before node i's turn -/
structure Turn (w : TWork) (m0 : List Int) (lim : Int) (bs : List TBan) (i : Nat) (ns : List Nd) : Prop where
  wf : WfN w m0 lim bs ns
  le : i ≤ ns.length
  mx : ∀ (k : Nat) (x nd : Nd), ns[k]? = some x → ns[i]? = some nd → x.dep ≤ nd.dep + 1
theorem turn_root {w : TWork} {m0 : List Int} {lim : Int} {bs : List TBan} (h : ValidF w m0) (hl : 0 ≤ lim) : Turn w m0 lim bs 0 [root m0] where
  wf := wf_root h hl
  le := Nat.zero_le _
  mx k x nd hk h0 := by
    cases k <;> simp at hk
    simp at h0
    subst hk h0
    omega
theorem Turn.mid {w : TWork} {m0 : List Int} {lim : Int} {bs : List TBan} {i : Nat} {ns : List Nd} (h : Turn w m0 lim bs i ns) {nd : Nd} (hi : ns[i]? = some nd) (hd : nd.dep ≠ lim) : Mid w m0 lim bs i nd ns := ⟨h.wf, hi, hd, fun k x hk => h.mx k x nd hk hi⟩
theorem Mid.turn {w : TWork} {m0 : List Int} {lim : Int} {bs : List TBan} {i : Nat} {nd : Nd} {ns : List Nd} (h : Mid w m0 lim bs i nd ns) : Turn w m0 lim bs (i + 1) ns where
  wf := h.wf
  le := (List.getElem?_eq_some_iff.1 h.at_).1
  mx k x n2 hk h2 := by
    have := h.mx k x hk
    have := h.wf.mono i (i + 1) nd n2 h.at_ h2 (by omega)
    omega
theorem Turn.skip {w : TWork} {m0 : List Int} {lim : Int} {bs : List TBan} {i : Nat} {ns : List Nd} (h : Turn w m0 lim bs i ns) {nd : Nd} (hi : ns[i]? = some nd) (hd : nd.dep = lim) : Turn w m0 lim bs (i + 1) ns where
  wf := h.wf
  le := (List.getElem?_eq_some_iff.1 hi).1
  mx k x n2 hk h2 := by
    have := (h.wf.val k x hk).2
    have := h.wf.mono i (i + 1) nd n2 hi h2 (by omega)
    omega
/- the way to a node does not change as nodes are added -/
theorem way_pre {w : TWork} {m0 : List Int} {lim : Int} {bs : List TBan} {ns : List Nd} (h : WfN w m0 lim bs ns) (t : List Nd) : ∀ (d k : Nat), k < ns.length → wayTo (ns ++ t) d k = wayTo ns d k
  | 0, _, _ => rfl
  | d + 1, k, hk => by
    rw [wayTo, wayTo, List.getElem?_append_left hk, List.getElem?_eq_getElem hk]
    show wayTo (ns ++ t) d ns[k].bef.toNat ++ _ = _
    rw [way_pre h t d ns[k].bef.toNat ?_]
    have hg := List.getElem?_eq_getElem hk
    by_cases h0 : k = 0
    · have h1 := h.rt
      subst h0
      have e : ns[0] = root m0 := by
        have := hg.symm.trans h1
        simp only [Option.some.injEq] at this
        exact this
      rw [e]
      show (-1 : Int).toNat < _
      omega
    · obtain ⟨b, nb, h1, h2, h3, _⟩ := h.bk k _ hg (by omega)
      rw [h3]
      simp only [child, Int.toNat_natCast]
      omega
end Go.Proofs.Ytopcjmipldkijaa

/- ref.SolveTask. -/
namespace Go.Proofs.Ytopcjmipldkijaa
open Eng
set_option maxRecDepth 10000
attribute [local irreducible] FnOk loopW idxF retX arrF findF

def encN (n : Nd) : List DV := [.lst 1 (n.mode.map encI), .int .i64 n.bef, .int .i64 n.act.kind, .int .i64 n.act.hand, .int .i64 n.act.place, .int .i64 n.dep]
abbrev SolR (r : Option (List TAct)) : SV := .tup [(false, [.dv (dAcs (r.getD []))]), (false, [.dv (.bool r.isSome)])]
theorem grow_take {bs : List TBan} {i : Nat} {m : List Int} {d : Int} {ns : List Nd} {al : List TAct} {j : Nat} {a : TAct} (h : al[j]? = some a) : grow bs i m d ns (al.take (j + 1)) = addN bs i m d (grow bs i m d ns (al.take j)) a := by
  have : al.take (j + 1) = al.take j ++ [a] := by simpa using map_take1 id h
  rw [this, grow, List.foldl_append]; rfl
theorem seen_take {ns : List Nd} {m : List Int} {k : Nat} {n : Nd} (h : ns[k]? = some n) : seenB (ns.take (k + 1)) m = (seenB (ns.take k) m || decide (n.mode = m)) := by
  have : ns.take (k + 1) = ns.take k ++ [n] := by simpa using map_take1 id h
  rw [this, seenB, List.any_append]; simp [seenB]
theorem ask_no {w : TWork} {m g : List Int} {lim : Int} {bs : List TBan} (h : askB w m g lim = false) : solveR w m g lim bs = none := by rw [solveR, h]; rfl
theorem run_some {w : TWork} {g : List Int} {lim : Int} {bs : List TBan} {f i : Nat} {ns : List Nd} {nd : Nd} (h : ns[i]? = some nd) (hg : meets nd.mode g = true) : runS w g lim bs (f + 1) i ns = some (wayTo ns nd.dep.toNat i) := by rw [runS, h]; simp [hg]
theorem run_end {w : TWork} {g : List Int} {lim : Int} {bs : List TBan} {i : Nat} {ns : List Nd} (h : ns[i]? = none) : ∀ f, runS w g lim bs f i ns = none
  | 0 => rfl
  | f + 1 => by rw [runS, h]
theorem run_skip {w : TWork} {g : List Int} {lim : Int} {bs : List TBan} {f i : Nat} {ns : List Nd} {nd : Nd} (h : ns[i]? = some nd) (hg : meets nd.mode g = false) (hd : nd.dep = lim) : runS w g lim bs (f + 1) i ns = runS w g lim bs f (i + 1) ns := by rw [runS, h]; simp [hg, hd]
theorem run_grow {w : TWork} {g : List Int} {lim : Int} {bs : List TBan} {f i : Nat} {ns : List Nd} {nd : Nd} (h : ns[i]? = some nd) (hg : meets nd.mode g = false) (hd : nd.dep ≠ lim) : runS w g lim bs (f + 1) i ns = runS w g lim bs f (i + 1) (grow bs i nd.mode nd.dep ns (actsOf w nd.mode)) := by rw [runS, h]; simp [hg, hd]
/-- one step of the way back -/
theorem way_step {w : TWork} {m0 : List Int} {lim : Int} {bs : List TBan} {ns : List Nd} (h : WfN w m0 lim bs ns) {k d : Nat} {x : Nd} (hk : ns[k]? = some x) (hd : x.dep = d) : (x.bef < 0 ∧ d = 0) ∨ ∃ (b d' : Nat) (nb : Nd), x.bef = b ∧ d = d' + 1 ∧ ns[b]? = some nb ∧ nb.dep = d' ∧ wayTo ns d k = wayTo ns d' b ++ [x.act] := by
  by_cases h0 : k = 0
  · subst h0
    have := hk.symm.trans h.rt
    simp only [Option.some.injEq] at this
    subst this
    have : (0 : Int) = d := hd
    exact .inl ⟨(by decide : (-1 : Int) < 0), by omega⟩
  · obtain ⟨b, nb, h1, h2, h3, _⟩ := h.bk k x hk (by omega)
    have hn := (h.val b nb h2).2.1
    have hx : x.dep = nb.dep + 1 := by rw [h3]; rfl
    have hb : x.bef = b := by rw [h3]; rfl
    obtain ⟨d', rfl⟩ : ∃ d', d = d' + 1 := ⟨d - 1, by omega⟩
    refine .inr ⟨b, d', nb, hb, rfl, h2, by omega, ?_⟩
    rw [wayTo, hk]
    show wayTo ns d' x.bef.toNat ++ _ = _
    rw [hb, Int.toNat_natCast]
set_option maxHeartbeats 4000000 in
theorem ref_SolveTask (w : TWork) (m g : List Int) (lim : Int) (bs : List TBan) (hm : mild w) (hg : g.length ≤ 4611686018427387904) (hb : bs.length ≤ 4611686018427387904) (hbm : ∀ b ∈ bs, b.mode.length ≤ 4611686018427387904) : FnOk Try.prog F.ref36_SolveTask [Wk w, Md m, Li g, I lim, .one (.dv (dBs bs))] [] 0 (SolR (solveR w m g lim bs)) [] 0 := by
  refine fnOk tab mix G.ref36_SolveTask rfl rfl (by kernel_rfl) rfl rfl ?_
  (conv => whnf)
  refine call_i (ref_ValidMode w m hm) ?_
  (conv => whnf)
  cases h1 : validB w m with
  | false =>
    rw [ask_no (by rw [askB, h1]; rfl)]
    (conv => whnf)
    (conv => whnf)
    refine retO [.own 10 Y.Action 3, .frz 2] ?_
    (conv => whnf)
    exact ⟨[], ⟨rfl, trivial⟩, trivial⟩
  | true =>
  (conv => whnf)
  refine ask_m (fun h2 => ?_) (fun h2 => ?_)
  · have h2 : ¬ g.length = w.objects.length := by simp at h2; omega
    rw [ask_no (by rw [askB, decide_eq_false h2]; simp)]
    (conv => whnf)
    (conv => whnf)
    refine retO [.own 10 Y.Action 3, .frz 2] ?_
    (conv => whnf)
    exact ⟨[], ⟨rfl, trivial⟩, trivial⟩
  have h2 : g.length = w.objects.length := by simp at h2; omega
  (conv => whnf)
  refine ask_m (fun h3 => ?_) (fun h3 => ?_)
  · have h3 := of_decide_eq_true h3
    rw [ask_no (by rw [askB, decide_eq_false (p := 0 ≤ lim) (by omega)]; simp)]
    (conv => whnf)
    (conv => whnf)
    refine retO [.own 10 Y.Action 3, .frz 2] ?_
    (conv => whnf)
    exact ⟨[], ⟨rfl, trivial⟩, trivial⟩
  have h3 := of_decide_eq_false h3
  (conv => whnf)
  refine ask_m (fun h4 => ?_) (fun h4 => ?_)
  · have h4 := of_decide_eq_true h4
    rw [ask_no (by rw [askB, decide_eq_false (p := lim ≤ 16) (by omega)]; simp)]
    (conv => whnf)
    (conv => whnf)
    refine retO [.own 10 Y.Action 3, .frz 2] ?_
    (conv => whnf)
    exact ⟨[], ⟨rfl, trivial⟩, trivial⟩
  have h4 := of_decide_eq_false h4
  have hv := valid_iff.1 h1
  have h6 := hv.le6
  rw [solveR, if_pos (by rw [askB, h1, decide_eq_true h2, decide_eq_true (p := 0 ≤ lim) (by omega), decide_eq_true (p := lim ≤ 16) (by omega)]; rfl)]
  generalize hR : runS w g lim bs (lots + 1) 0 [root m] = R
  (conv => whnf)
  refine loop_intro (fun s : Nat × List Nd => ⟨[(2, Li g), (3, I lim), (4, .one (.dv (dBs bs))), (5, .one (.vptr 0 0)), (6, .one (.vptr 1 0)), (12, .one (.row 2)), (13, I s.1)], [(0, bWk w), (1, bMd m), (2, .rows Y.armplanref36_node 6 (s.2.map encN))], 3⟩) (fun s => Turn w m lim bs s.1 s.2 ∧ s.1 ≤ lots ∧ runS w g lim bs (lots + 1 - s.1) s.1 s.2 = R) (fun s => lots + 1 - s.1) [] (0, [root m]) [] ⟨turn_root hv (by omega), Nat.zero_le _, hR⟩ ⟨⟨rfl, rfl, rfl, rfl, rfl, rfl, rfl, trivial⟩, ⟨rfl, rfl, rfl, trivial⟩⟩ ?_
  rintro ⟨i, ns⟩ ⟨ht, hil, hr⟩
  have hlen := ht.wf.le
  simp only at ht hil hr hlen
  have hlo : lots = 1771561 := rfl
  obtain ⟨f, hf⟩ : ∃ f, lots + 1 - i = f + 1 := ⟨lots - i, by omega⟩
  have hii : IntKind.i64.wrap ((i : Int) + 1) = ((i + 1 : Nat) : Int) := by rw [w64] <;> omega
  (conv => whnf)
  refine ask_m (fun h5 => ?_) (fun h5 => ?_)
  · have hlt : i < ns.length := by have := of_decide_eq_true h5; simp only [List.length_map] at this; omega
    obtain ⟨nd, hnd⟩ : ∃ j, ns[i]? = some j := ⟨_, List.getElem?_eq_getElem hlt⟩
    obtain ⟨v1, v2, v3⟩ := ht.wf.val i nd hnd
    have v6 := v1.le6
    have v7 := v1.len
    (conv => whnf)
    refine ⟨⟨by simp only; omega, by simpa using hlt⟩, ?_⟩
    (conv => whnf)
    refine idx_map (x := nd) (by simpa using hnd) ?_
    (conv => whnf)
    refine call_i (ref_there nd.mode g hg (by omega)) ?_
    (conv => whnf)
    refine ask_m (fun h6 => ?_) (fun h6 => ?_)
    · rw [hf, run_some hnd h6] at hr
      (conv => whnf)
      refine loop_intro (fun s : Nat × Nat × List TAct => ⟨[(12, .one (.row 2)), (13, I i), (14, .one (.row 3)), (15, I s.2.1)], [(2, .rows Y.armplanref36_node 6 (ns.map encN)), (3, .rows Y.Action 3 (s.2.2.map encAc))], 4⟩) (fun s => (∃ x, ns[s.2.1]? = some x ∧ x.dep = s.1) ∧ wayTo ns s.1 s.2.1 ++ s.2.2 = wayTo ns nd.dep.toNat i ∧ s.2.2.length + s.1 ≤ 16) (fun s => s.1) [.own 14 Y.Action 3] (nd.dep.toNat, i, []) [] ⟨⟨nd, hnd, by simp only; omega⟩, by simp, by simp only [List.length_nil]; omega⟩ ⟨⟨rfl, rfl, rfl, rfl, trivial⟩, ⟨rfl, rfl, trivial⟩⟩ ?_
      rintro ⟨d, k, p⟩ ⟨⟨x, hx, hxd⟩, hp, hpl⟩
      simp only at hx hxd hp hpl
      have hkl := (List.getElem?_eq_some_iff.1 hx).1
      have hst := way_step ht.wf hx hxd
      (conv => whnf)
      refine ⟨⟨by simp only; omega, by simpa using hkl⟩, ?_⟩
      (conv => whnf)
      refine idx_map (x := x) (by simpa using hx) ?_
      (conv => whnf)
      refine ask_m (fun h8 => ?_) (fun h8 => ?_)
      · have h8 := of_decide_eq_true h8
        rcases hst with ⟨e, _⟩ | ⟨b, d', nb, e1, e2, e3, e4, e5⟩
        · omega
        (conv => whnf)
        refine ⟨⟨by simp only; omega, by simpa using hkl⟩, ?_⟩
        (conv => whnf)
        refine idx_map (x := x) (by simpa using hx) ?_
        (conv => whnf)
        refine ⟨⟨by simp; omega, by simp; omega⟩, ?_⟩
        (conv => whnf)
        (conv => whnf)
        refine ⟨⟨by simp only; omega, by simpa using hkl⟩, ?_⟩
        (conv => whnf)
        refine idx_map (x := x) (by simpa using hx) ?_
        (conv => whnf)
        exact ⟨(d', b, x.act :: p), [(3, 5)], ⟨⟨nb, e3, e4⟩, by simp only; rw [← hp, e5, List.append_assoc]; rfl, by simp only [List.length_cons]; omega⟩, by simp only; omega, ⟨⟨rfl, rfl, rfl, eqI e1, trivial⟩, ⟨rfl, rows_eq (by simp [encAc]), trivial⟩⟩⟩
      · have h8 := of_decide_eq_false h8
        rcases hst with ⟨_, e⟩ | ⟨b, d', nb, e1, e2, e3, e4, e5⟩
        · subst e
          rw [wayTo, List.nil_append] at hp
          subst hr hp
          (conv => whnf)
          refine retO [.frz 3] ?_
          (conv => whnf)
          exact ⟨[], ⟨rfl, trivial⟩, trivial⟩
        · omega
    rw [hf] at hr
    (conv => whnf)
    refine ⟨⟨by simp only; omega, by simpa using hlt⟩, ?_⟩
    (conv => whnf)
    refine idx_map (x := nd) (by simpa using hnd) ?_
    (conv => whnf)
    refine ask_m (fun h7 => ?_) (fun h7 => ?_)
    · have h7 := of_decide_eq_true h7
      rw [run_skip hnd h6 h7] at hr
      (conv => whnf)
      exact ⟨(i + 1, ns), [], ⟨ht.skip hnd h7, by simp only; omega, by rw [show lots + 1 - (i + 1) = f by omega]; exact hr⟩, by simp only; omega, ⟨⟨rfl, rfl, rfl, rfl, rfl, rfl, eqI hii, trivial⟩, ⟨rfl, rfl, rfl, trivial⟩⟩⟩
    have h7 := of_decide_eq_false h7
    rw [run_grow hnd h6 h7] at hr
    (conv => whnf)
    refine ⟨⟨by simp only; omega, by simpa using hlt⟩, ?_⟩
    (conv => whnf)
    refine idx_map (x := nd) (by simpa using hnd) ?_
    (conv => whnf)
    refine call_i (ref_Actions w nd.mode hm) ?_
    (conv => whnf)
    have hmid := ht.mid hnd h7
    have hal := acts_len w nd.mode
    revert hr
    generalize hA : actsOf w nd.mode = al at *
    intro hr
    refine loop_intro (fun j : Nat => ⟨[(2, Li g), (3, I lim), (4, .one (.dv (dBs bs))), (5, .one (.vptr 0 0)), (6, .one (.vptr 1 0)), (12, .one (.row 2)), (13, I i), (16, .one (.dv (dAcs al))), (17, I j)], [(0, bWk w), (1, bMd m), (2, .rows Y.armplanref36_node 6 ((grow bs i nd.mode nd.dep ns (al.take j)).map encN))], 3⟩) (fun j => j ≤ al.length) (fun j => al.length - j) [] 0 [] (Nat.zero_le _) ⟨⟨rfl, rfl, rfl, rfl, rfl, rfl, rfl, rfl, rfl, trivial⟩, ⟨rfl, rfl, rfl, trivial⟩⟩ ?_
    rintro j hj
    have hjj : IntKind.i64.wrap ((j : Int) + 1) = ((j + 1 : Nat) : Int) := by rw [w64] <;> omega
    have hmj : Mid w m lim bs i nd (grow bs i nd.mode nd.dep ns (al.take j)) := mid_grow hmid fun a ha => hA ▸ List.mem_of_mem_take ha
    generalize hG : grow bs i nd.mode nd.dep ns (al.take j) = gs at *
    have hgl := hmj.wf.le
    have hga := hmj.at_
    have hgt := (List.getElem?_eq_some_iff.1 hga).1
    (conv => whnf)
    refine ask_m (fun h8 => ?_) (fun h8 => ?_)
    · have hjl : j < al.length := by have := of_decide_eq_true h8; simp only [List.length_map] at this; omega
      obtain ⟨a, haj⟩ : ∃ x, al[j]? = some x := ⟨_, List.getElem?_eq_getElem hjl⟩
      have hgr := grow_take (bs := bs) (i := i) (m := nd.mode) (d := nd.dep) (ns := ns) haj
      rw [hG, addN] at hgr
      have hap : applyB w nd.mode a = true := mem_acts.1 (hA ▸ List.mem_of_getElem? haj)
      have hse : applyM w nd.mode a = setAt nd.mode a := by rw [applyM, if_pos hap]
      have hsl := setAt_len nd.mode a
      (conv => whnf)
      refine ⟨⟨by omega, by simpa using hgt⟩, ?_⟩
      (conv => whnf)
      refine idx_map (x := nd) (by simpa using hga) ?_
      (conv => whnf)
      refine idx_and (by omega) (by simpa using haj) ?_
      (conv => whnf)
      refine call_i (ref_banned bs nd.mode a hb hbm (by omega)) ?_
      (conv => whnf)
      refine ask_m (fun h9 => ?_) (fun h9 => ?_)
      · rw [if_pos (by rw [h9]; rfl)] at hgr
        (conv => whnf)
        exact ⟨j + 1, [], hjl, by omega, ⟨⟨rfl, rfl, rfl, rfl, rfl, rfl, rfl, rfl, eqI hjj, trivial⟩, ⟨rfl, rfl, rows_eq (by rw [hgr]), trivial⟩⟩⟩
      rw [h9, Bool.false_or] at hgr
      (conv => whnf)
      refine ⟨⟨by omega, by simpa using hgt⟩, ?_⟩
      (conv => whnf)
      refine idx_map (x := nd) (by simpa using hga) ?_
      (conv => whnf)
      refine idx_and (by omega) (by simpa using haj) ?_
      (conv => whnf)
      refine call_i (ref_Apply w nd.mode a hm (by omega)) ?_
      (conv => whnf)
      rw [hse]
      generalize hx : setAt nd.mode a = x at *
      refine loop_intro (fun k : Nat => ⟨[(2, Li g), (3, I lim), (4, .one (.dv (dBs bs))), (5, .one (.vptr 0 0)), (6, .one (.vptr 1 0)), (12, .one (.row 2)), (13, I i), (16, .one (.dv (dAcs al))), (17, I j), (18, .one (.vptr 3 0)), (20, Bo (seenB (gs.take k) x)), (21, I k)], [(0, bWk w), (1, bMd m), (2, .rows Y.armplanref36_node 6 (gs.map encN)), (3, bMd x)], 4⟩) (fun k => k ≤ gs.length) (fun k => gs.length - k) [] 0 [] (Nat.zero_le _) ⟨⟨rfl, rfl, rfl, rfl, rfl, rfl, rfl, rfl, rfl, rfl, rfl, rfl, trivial⟩, ⟨rfl, rfl, rfl, rfl, trivial⟩⟩ ?_
      rintro k hk
      have hkk : IntKind.i64.wrap ((k : Int) + 1) = ((k + 1 : Nat) : Int) := by rw [w64] <;> omega
      (conv => whnf)
      refine ask_m (fun h10 => ?_) (fun h10 => ?_)
      · have hkl : k < gs.length := by have := of_decide_eq_true h10; simp only [List.length_map] at this; omega
        obtain ⟨n, hn⟩ : ∃ y, gs[k]? = some y := ⟨_, List.getElem?_eq_getElem hkl⟩
        have hst := seen_take (m := x) hn
        (conv => whnf)
        cases hs : seenB (gs.take k) x with
        | true =>
          rw [hs, Bool.true_or] at hst
          (conv => whnf)
          exact ⟨k + 1, [], hkl, by omega, ⟨⟨rfl, rfl, rfl, rfl, rfl, rfl, rfl, rfl, rfl, rfl, by rw [hst]; rfl, eqI hkk, trivial⟩, ⟨rfl, rfl, rfl, rfl, trivial⟩⟩⟩
        | false =>
          rw [hs, Bool.false_or] at hst
          (conv => whnf)
          refine ⟨⟨by omega, by simpa using hkl⟩, ?_⟩
          (conv => whnf)
          refine idx_map (x := n) (by simpa using hn) ?_
          (conv => whnf)
          have hnl := (hmj.wf.val k n hn).1.le6
          refine call_i (ref_SameMode n.mode x (by omega) (by omega)) ?_
          (conv => whnf)
          exact ⟨k + 1, [], hkl, by omega, ⟨⟨rfl, rfl, rfl, rfl, rfl, rfl, rfl, rfl, rfl, rfl, by rw [hst]; rfl, eqI hkk, trivial⟩, ⟨rfl, rfl, rfl, rfl, trivial⟩⟩⟩
      have hkl : k = gs.length := by have := of_decide_eq_false h10; simp only [List.length_map] at this; omega
      subst hkl
      rw [List.take_length]
      (conv => whnf)
      refine ask_m (fun h11 => ?_) (fun h11 => ?_)
      · have h11 : seenB gs x = false := by simpa using h11
        rw [if_neg (by rw [h11]; decide)] at hgr
        (conv => whnf)
        refine idx_and (by omega) (by simpa using haj) ?_
        (conv => whnf)
        refine ⟨⟨by omega, by simpa using hgt⟩, ?_⟩
        (conv => whnf)
        refine idx_map (x := nd) (by simpa using hga) ?_
        (conv => whnf)
        refine ⟨⟨by simp; omega, by simp; omega⟩, ?_⟩
        (conv => whnf)
        have hdd : IntKind.i64.wrap (nd.dep + 1) = nd.dep + 1 := by rw [w64] <;> omega
        exact ⟨j + 1, [(2, 5)], hjl, by omega, ⟨⟨rfl, rfl, rfl, rfl, rfl, rfl, rfl, rfl, eqI hjj, trivial⟩, ⟨rfl, rfl, rows_eq (by rw [hgr, List.map_append]; subst hx; show _ ++ [[_, _, _, _, _, DV.int IntKind.i64 (IntKind.i64.wrap (nd.dep + 1))]] = _; rw [hdd]; rfl), trivial⟩⟩⟩
      · have h11 : seenB gs x = true := by simpa using h11
        rw [if_pos h11] at hgr
        (conv => whnf)
        exact ⟨j + 1, [], hjl, by omega, ⟨⟨rfl, rfl, rfl, rfl, rfl, rfl, rfl, rfl, eqI hjj, trivial⟩, ⟨rfl, rfl, rows_eq (by rw [hgr]), trivial⟩⟩⟩
    · have hjl : j = al.length := by have := of_decide_eq_false h8; simp only [List.length_map] at this; omega
      subst hjl
      rw [List.take_length] at hG
      rw [hG] at hr
      (conv => whnf)
      exact ⟨(i + 1, gs), [], ⟨hmj.turn, by simp only; omega, by rw [show lots + 1 - (i + 1) = f by omega]; exact hr⟩, by simp only; omega, ⟨⟨rfl, rfl, rfl, rfl, rfl, rfl, eqI hii, trivial⟩, ⟨rfl, rfl, rfl, trivial⟩⟩⟩
  · have hi : ns[i]? = none := by
      have := of_decide_eq_false h5
      simp only [List.length_map] at this
      exact List.getElem?_eq_none (by omega)
    rw [run_end hi] at hr
    subst hr
    (conv => whnf)
    refine retO [.own 10 Y.Action 3, .frz 3] ?_
    (conv => whnf)
    exact ⟨[], ⟨rfl, trivial⟩, trivial⟩
end Go.Proofs.Ytopcjmipldkijaa

/- The maps of task.Solve: task.bannedIn, task.way. -/
namespace Go.Proofs.Ytopcjmipldkijaa
open Eng
set_option maxRecDepth 10000
attribute [local irreducible] FnOk loopW idxF retX arrF findF

theorem p6_eq (p q : P6) : (decide (p.a = q.a) && (decide (p.b = q.b) && (decide (p.c = q.c) && (decide (p.d = q.d) && (decide (p.e = q.e) && (decide (p.f = q.f) && true)))))) = decide (p = q) := by
  rw [Bool.eq_iff_iff]; cases p; cases q; simp
theorem encP_inj {p q : P6} (h : encP p = encP q) : p = q := by
  cases p; cases q
  simpa [encP] using h
theorem keq_places (p q : P6) : keyEqs T Y.task_places (encP p) (encP q) := by
  refine ⟨decide (p = q), ?_, fun K h => ?_⟩
  · rw [decide_eq_true_eq]
    exact ⟨fun e => by rw [e], encP_inj⟩
  · (conv => whnf)
    rw [p6_eq]
    exact h
def encPA (p : P6) (a : TAct) : List DV := encP p ++ encAc a
theorem encPA_inj {p q : P6} {a b : TAct} (h : encPA p a = encPA q b) : p = q ∧ a = b := by
  cases p; cases q; cases a; cases b
  simpa [encPA, encP, encAc, and_assoc] using h
theorem keq_ban (p q : P6) (a b : TAct) : keyEqs T Y.task_ban (encPA p a) (encPA q b) := by
  refine ⟨decide (p = q ∧ a = b), ?_, fun K h => ?_⟩
  · rw [decide_eq_true_eq]
    exact ⟨fun e => by rw [e.1, e.2], encPA_inj⟩
  · (conv => whnf)
    have e : ((decide (p = q)) && (decide (a.kind = b.kind) && (decide (a.hand = b.hand) && (decide (a.place = b.place) && true)) && true)) = decide (p = q ∧ a = b) := by rw [act_eq, Bool.and_true, Bool.decide_and]
    rw [p6_eq, e]
    exact h
theorem mp_eq {a b : List Ent} (h : a = b) : Box.mp a = .mp b := by rw [h]
/-- an entry under a key of several cells is there, or it is not -/
theorem findA_or {α : Type} (kc : α → List DV) (vf : α → Bool × List DV) (key : List DV) : ∀ l : List α, ((∀ a ∈ l, kc a ≠ key) ∧ FindA key (l.map fun a => (((true, kc a), vf a) : Ent)) none) ∨ ∃ i a, l[i]? = some a ∧ kc a = key ∧ FindA key (l.map fun a => (((true, kc a), vf a) : Ent)) (some (i, vf a))
  | [] => .inl ⟨fun a h => (by cases h), fun e h => (by cases h)⟩
  | x :: l => by
    by_cases h : kc x = key
    · exact .inr ⟨0, x, rfl, h, by rw [← h]; rfl, fun j e hj => by omega⟩
    · rcases findA_or kc vf key l with ⟨h1, h2⟩ | ⟨i, a, h1, h2, h3, h4⟩
      · refine .inl ⟨fun a ha => ?_, fun e he => ?_⟩
        · rcases List.mem_cons.1 ha with rfl | ha
          · exact h
          · exact h1 a ha
        · rcases List.mem_cons.1 he with rfl | he
          · exact h
          · exact h2 e he
      · refine .inr ⟨i + 1, a, h1, h2, h3, fun j e hj he => ?_⟩
        cases j with
        | zero =>
          simp only [List.map_cons, List.getElem?_cons_zero, Option.some.injEq] at he
          subst he
          exact h
        | succ j => exact h4 j e (by omega) (by simpa using he)
theorem set_same {α : Type} {l : List α} {i : Nat} {x : α} (h : l[i]? = some x) : l.set i x = l := by
  apply List.ext_getElem?
  intro j
  rw [List.getElem?_set]
  split
  · rename_i e; subst e
    have := (List.getElem?_eq_some_iff.1 h).1
    rw [if_pos this, h]
  · rfl
/- the bans -/
def insK (ks : List (P6 × TAct)) (k : P6 × TAct) : List (P6 × TAct) := if k ∈ ks then ks else ks ++ [k]
def banIn (n : Nat) (ks : List (P6 × TAct)) (b : TBan) : List (P6 × TAct) := if b.mode.length = n then insK ks (P6.of b.mode, b.act) else ks
def banK (n : Nat) (bs : List TBan) : List (P6 × TAct) := bs.foldl (banIn n) []
abbrev enK (k : P6 × TAct) : Ent := ((true, encPA k.1 k.2), (false, [.bool true]))
theorem mem_banK {n : Nat} {k : P6 × TAct} : ∀ (bs : List TBan) (ks : List (P6 × TAct)), k ∈ bs.foldl (banIn n) ks ↔ k ∈ ks ∨ ∃ b ∈ bs, b.mode.length = n ∧ k = (P6.of b.mode, b.act)
  | [], ks => by simp
  | b :: bs, ks => by
    rw [List.foldl_cons, mem_banK bs, banIn, insK]
    split
    · rename_i hl
      split
      · rename_i hm
        constructor
        · rintro (h | ⟨c, h1, h2⟩)
          · exact .inl h
          · exact .inr ⟨c, by simp [h1], h2⟩
        · rintro (h | ⟨c, h1, h2, h3⟩)
          · exact .inl h
          · rcases List.mem_cons.1 h1 with rfl | h1
            · exact .inl (h3 ▸ hm)
            · exact .inr ⟨c, h1, h2, h3⟩
      · rw [List.mem_append, List.mem_singleton]
        constructor
        · rintro ((h | h) | ⟨c, h1, h2⟩)
          · exact .inl h
          · exact .inr ⟨b, by simp, hl, h⟩
          · exact .inr ⟨c, by simp [h1], h2⟩
        · rintro (h | ⟨c, h1, h2, h3⟩)
          · exact .inl (.inl h)
          · rcases List.mem_cons.1 h1 with rfl | h1
            · exact .inl (.inr h3)
            · exact .inr ⟨c, h1, h2, h3⟩
    · rename_i hl
      constructor
      · rintro (h | ⟨c, h1, h2⟩)
        · exact .inl h
        · exact .inr ⟨c, by simp [h1], h2⟩
      · rintro (h | ⟨c, h1, h2, h3⟩)
        · exact .inl h
        · rcases List.mem_cons.1 h1 with rfl | h1
          · exact absurd h2 hl
          · exact .inr ⟨c, h1, h2, h3⟩
/-- the solver's bans are the given ones -/
theorem banK_is {n : Nat} (hn : n ≤ 6) (bs : List TBan) {m : List Int} (hm : m.length = n) (a : TAct) : (P6.of m, a) ∈ banK n bs ↔ bannedB bs m a = true := by
  rw [banK, mem_banK, bannedB, List.any_eq_true]
  constructor
  · rintro (h | ⟨b, h1, h2, h3⟩)
    · cases h
    · simp only [Prod.mk.injEq] at h3
      have := of_inj (by omega) (by omega) h3.1
      exact ⟨b, h1, by simp [this, h3.2]⟩
  · rintro ⟨b, h1, h2⟩
    simp only [Bool.and_eq_true, decide_eq_true_eq] at h2
    exact .inr ⟨b, h1, by rw [h2.2, hm], by rw [h2.1, h2.2]⟩
theorem banK_take {n : Nat} {bs : List TBan} {k : Nat} {b : TBan} (h : bs[k]? = some b) : banK n (bs.take (k + 1)) = banIn n (banK n (bs.take k)) b := by
  have : bs.take (k + 1) = bs.take k ++ [b] := by simpa using map_take1 id h
  rw [this, banK, List.foldl_append]; rfl
theorem und_ban : Try.prog.underlying Y.map_task_ban_bool = some (.map Y.task_ban Y.bool) := by kernel_rfl
theorem wide_of {t : Nat} (h : (Try.prog.underlying t).map wideB = some true) : ∃ d, Try.prog.underlying t = some d ∧ wideB d = true := by
  cases e : Try.prog.underlying t with
  | none => rw [e] at h; cases h
  | some d => rw [e] at h; exact ⟨d, rfl, by simpa using h⟩
theorem keysA_ban (p : P6) (a : TAct) (ks : List (P6 × TAct)) : keysA T Y.task_ban (encPA p a) (ks.map enK) := by
  intro e he
  obtain ⟨k, _, rfl⟩ := List.mem_map.1 he
  exact ⟨_, _, rfl, keq_ban p k.1 a k.2⟩
theorem keyA_ban (p : P6) (a : TAct) (ks : List (P6 × TAct)) : keyA T Try.prog Y.map_task_ban_bool Y.task_ban Y.bool (encPA p a) (ks.map enK) := ⟨⟨und_ban, wide_of (by kernel_rfl), by kernel_rfl, rfl⟩, keq_ban p p a a, keysA_ban p a ks⟩
theorem task_bannedIn (w : TWork) (bs : List TBan) (hw : w.objects.length ≤ 6) (hb : bs.length ≤ 4611686018427387904) : FnOk Try.prog F.task_bannedIn [Wk w, .one (.dv (dBs bs))] [] 0 (.one (.row 0)) [(0, .mp ((banK w.objects.length bs).map enK))] 1 := by
  refine fnOk tab mix G.task_bannedIn rfl rfl (by kernel_rfl) rfl rfl ?_
  (conv => whnf)
  refine loop_intro (fun k : Nat => ⟨[(2, .one (.vptr 0 0)), (5, .one (.row 1)), (9, .one (.dv (dBs bs))), (10, I bs.length), (11, I k)], [(0, bWk w), (1, .mp ((banK w.objects.length (bs.take k)).map enK))], 2⟩) (fun k => k ≤ bs.length) (fun k => bs.length - k) [] 0 [] (Nat.zero_le _) ⟨⟨rfl, rfl, rfl, eqI (by simp), rfl, trivial⟩, ⟨rfl, rfl, trivial⟩⟩ ?_
  rintro k hk
  have hkk : IntKind.i64.wrap ((k : Int) + 1) = ((k + 1 : Nat) : Int) := by rw [w64] <;> omega
  (conv => whnf)
  refine ask_m (fun h => ?_) (fun h => ?_)
  · have hlt : k < bs.length := by have := of_decide_eq_true h; omega
    obtain ⟨b, hbk⟩ : ∃ j, bs[k]? = some j := ⟨_, List.getElem?_eq_getElem hlt⟩
    have hst := banK_take (n := w.objects.length) hbk
    (conv => whnf)
    refine idx_and (by omega) (by simpa using hbk) ?_
    (conv => whnf)
    refine ask_m (fun h1 => ?_) (fun h1 => ?_)
    · have h1 : b.mode.length = w.objects.length := by simp at h1; omega
      rw [banIn, if_pos h1, insK] at hst
      (conv => whnf)
      refine call_i (task_placesOf b.mode (by omega)) ?_
      (conv => whnf)
      refine ⟨_, _, keyA_ban (P6.of b.mode) b.act _, ?_⟩
      (conv => whnf)
      rcases findA_or (fun k : P6 × TAct => encPA k.1 k.2) (fun _ => (false, [.bool true])) (encPA (P6.of b.mode) b.act) (banK w.objects.length (bs.take k)) with ⟨f1, f2⟩ | ⟨i, x, f1, f2, f3⟩
      · refine ⟨none, f2, ?_⟩
        rw [if_neg (fun h => f1 _ h rfl)] at hst
        (conv => whnf)
        exact ⟨k + 1, [], hlt, by omega, ⟨⟨rfl, rfl, rfl, rfl, eqI hkk, trivial⟩, ⟨rfl, mp_eq (by rw [hst, List.map_append]; rfl), trivial⟩⟩⟩
      · have hx : x = (P6.of b.mode, b.act) := by
          have := encPA_inj f2
          exact Prod.ext this.1 this.2
        subst hx
        refine ⟨_, f3, ?_⟩
        rw [if_pos (List.mem_of_getElem? f1)] at hst
        (conv => whnf)
        exact ⟨k + 1, [], hlt, by omega, ⟨⟨rfl, rfl, rfl, rfl, eqI hkk, trivial⟩, ⟨rfl, mp_eq (by rw [hst]; exact set_same (by rw [List.getElem?_map, f1]; rfl)), trivial⟩⟩⟩
    · have h1 : ¬ b.mode.length = w.objects.length := by simp at h1; omega
      rw [banIn, if_neg h1] at hst
      (conv => whnf)
      exact ⟨k + 1, [], hlt, by omega, ⟨⟨rfl, rfl, rfl, rfl, eqI hkk, trivial⟩, ⟨rfl, mp_eq (by rw [hst]), trivial⟩⟩⟩
  · have hk : k = bs.length := by have := of_decide_eq_false h; omega
    subst hk
    rw [List.take_length]
    (conv => whnf)
    refine retO [] ?_
    (conv => whnf)
    exact ⟨[(0, 1)], ⟨rfl, trivial⟩, ⟨rfl, trivial⟩⟩
end Go.Proofs.Ytopcjmipldkijaa

/- task.way. -/
namespace Go.Proofs.Ytopcjmipldkijaa
open Eng
set_option maxRecDepth 10000
attribute [local irreducible] FnOk loopW idxF retX arrF findF

abbrev kN (n : Nd) : List DV := encP (P6.of n.mode)
abbrev vN (n : Nd) : Bool × List DV := (true, encP (P6.of n.bm) ++ encAc n.act)
abbrev enN (n : Nd) : Ent := ((true, kN n), vN n)
theorem und_seen : Try.prog.underlying Y.map_task_places_task_origin = some (.map Y.task_places Y.task_origin) := by kernel_rfl
theorem keyA_seen (p : P6) (ns : List Nd) : keyA T Try.prog Y.map_task_places_task_origin Y.task_places Y.task_origin (encP p) (ns.map enN) := ⟨⟨und_seen, wide_of (by kernel_rfl), by kernel_rfl, rfl⟩, keq_places p p, fun e he => by
  obtain ⟨n, _, rfl⟩ := List.mem_map.1 he
  exact ⟨_, _, rfl, keq_places p (P6.of n.mode)⟩⟩
theorem WfN.inj {w : TWork} {m0 : List Int} {lim : Int} {bs : List TBan} {ns : List Nd} (h : WfN w m0 lim bs ns) {i k : Nat} {x y : Nd} (hi : ns[i]? = some x) (hk : ns[k]? = some y) (e : x.mode = y.mode) : i = k := by
  have hi' := (List.getElem?_eq_some_iff.1 hi).1
  have hk' := (List.getElem?_eq_some_iff.1 hk).1
  have hp := List.pairwise_iff_getElem.1 h.nd
  have ex : (ns.map Nd.mode)[i]'(by simpa using hi') = x.mode := by rw [List.getElem_map, (List.getElem?_eq_some_iff.1 hi).2]
  have ey : (ns.map Nd.mode)[k]'(by simpa using hk') = y.mode := by rw [List.getElem_map, (List.getElem?_eq_some_iff.1 hk).2]
  rcases Nat.lt_trichotomy i k with hlt | heq | hlt
  · exact absurd (ex.trans (e.trans ey.symm)) (hp i k (by simpa using hi') (by simpa using hk') hlt)
  · exact heq
  · exact absurd (ey.trans (e.symm.trans ex.symm)) (hp k i (by simpa using hk') (by simpa using hi') hlt)
/-- a node's entry in the map -/
theorem find_node {w : TWork} {m0 : List Int} {lim : Int} {bs : List TBan} {ns : List Nd} (h : WfN w m0 lim bs ns) {k : Nat} {x : Nd} (hk : ns[k]? = some x) : ∃ i, FindA (encP (P6.of x.mode)) (ns.map enN) (some (i, vN x)) := by
  rcases findA_or kN vN (encP (P6.of x.mode)) ns with ⟨f1, _⟩ | ⟨i, y, f1, f2, f3⟩
  · exact absurd rfl (f1 x (List.mem_of_getElem? hk))
  · have vx := (h.val k x hk).1
    have vy := (h.val i y f1).1
    have e := of_inj vy.le6 (by rw [vx.len, vy.len]) (encP_inj f2)
    have := h.inj f1 hk e
    subst this
    rw [f1] at hk
    simp only [Option.some.injEq] at hk
    subst hk
    exact ⟨i, f3⟩
theorem find_mode {ns : List Nd} {w : TWork} (hv : ∀ n ∈ ns, ValidF w n.mode) {m : List Int} (hm : ValidF w m) : (seenB ns m = false ∧ FindA (encP (P6.of m)) (ns.map enN) none) ∨ (seenB ns m = true ∧ ∃ i x, FindA (encP (P6.of m)) (ns.map enN) (some (i, vN x))) := by
  rcases findA_or kN vN (encP (P6.of m)) ns with ⟨f1, f2⟩ | ⟨i, y, f1, f2, f3⟩
  · refine .inl ⟨?_, f2⟩
    cases h : seenB ns m with
    | false => rfl
    | true =>
      obtain ⟨n, h1, h2⟩ := List.mem_map.1 (seen_iff.1 h)
      exact absurd (by rw [← h2]) (f1 n h1)
  · have hy := List.mem_of_getElem? f1
    have e := of_inj (hv y hy).le6 (by rw [(hv y hy).len, hm.len]) (encP_inj f2)
    exact .inr ⟨seen_iff.2 (List.mem_map.2 ⟨y, hy, e⟩), i, y, f3⟩
theorem bm_of {w : TWork} {m0 : List Int} {lim : Int} {bs : List TBan} {ns : List Nd} (h : WfN w m0 lim bs ns) {k b : Nat} {x nb : Nd} (hk : ns[k]? = some x) (hb : x.bef = b) (hn : ns[b]? = some nb) : x.bm = nb.mode := by
  by_cases h0 : k = 0
  · subst h0
    have := hk.symm.trans h.rt
    simp only [Option.some.injEq] at this
    subst this
    have : (-1 : Int) = b := hb
    omega
  · obtain ⟨b2, nb2, h1, h2, h3, _⟩ := h.bk k x hk (by omega)
    have e : x.bef = b2 := by rw [h3]; rfl
    have e2 : b2 = b := by omega
    subst e2
    rw [hn] at h2
    simp only [Option.some.injEq] at h2
    subst h2
    rw [h3]; rfl
def zA : TAct := ⟨0, 0, 0⟩
theorem set_rep (j : Nat) (a : TAct) (p : List TAct) : (((List.replicate (j + 1) zA ++ p).map encAc).set j (encAc a)) = (List.replicate j zA ++ a :: p).map encAc := by
  rw [← List.map_set, List.replicate_succ', List.append_assoc, List.set_append_right _ _ (by simp)]
  simp
theorem task_way {w : TWork} {m0 : List Int} {lim : Int} {bs : List TBan} {ns : List Nd} (h : WfN w m0 lim bs ns) {k d : Nat} {x : Nd} (hk : ns[k]? = some x) (hd : x.dep = d) (hd16 : d ≤ 16) : FnOk Try.prog F.task_way [.one (.row 0), Pl (P6.of x.mode), I d] [(0, .mp (ns.map enN))] 1 (.one (.dv (dAcs (wayTo ns d k)))) [(0, .mp (ns.map enN))] 1 := by
  refine fnOk tab mix G.task_way rfl rfl (by kernel_rfl) rfl rfl ?_
  (conv => whnf)
  refine ⟨⟨by omega, Int.le_refl _, by show (24 : Int) * d ≤ _; omega, by omega⟩, ?_⟩
  (conv => whnf)
  refine loop_intro (fun s : Nat × Nat × Nd × List TAct => ⟨[(0, .one (.row 0)), (4, .one (.vptr 1 0)), (7, .one (.row 2)), (8, I ((s.1 : Int) - 1))], [(0, .mp (ns.map enN)), (1, bPl (P6.of s.2.2.1.mode)), (2, .rows Y.Action 3 ((List.replicate s.1 zA ++ s.2.2.2).map encAc))], 3⟩) (fun s => ns[s.2.1]? = some s.2.2.1 ∧ s.2.2.1.dep = s.1 ∧ s.2.2.2.length + s.1 = d ∧ wayTo ns s.1 s.2.1 ++ s.2.2.2 = wayTo ns d k) (fun s => s.1) [] (d, k, x, []) [] ⟨hk, hd, by simp, by simp⟩ ⟨⟨rfl, rfl, rfl, eqI (by simp only; rw [w64] <;> omega), trivial⟩, ⟨rfl, rfl, rows_eq (by simp [zA, encAc]), trivial⟩⟩ ?_
  rintro ⟨j, b, y, p⟩ ⟨hy, hyd, hpl, hp⟩
  simp only at hy hyd hpl hp
  have hst := way_step h hy hyd
  (conv => whnf)
  refine ask_m (fun h1 => ?_) (fun h1 => ?_)
  · have h1 := of_decide_eq_true h1
    simp only at h1
    rcases hst with ⟨_, e⟩ | ⟨b', j', nb, e1, rfl, e3, e4, e5⟩
    · omega
    obtain ⟨i1, f1⟩ := find_node h hy
    (conv => whnf)
    refine ⟨_, _, keyA_seen (P6.of y.mode) ns, ?_⟩
    (conv => whnf)
    refine ⟨by kernel_rfl, _, f1, ?_⟩
    (conv => whnf)
    refine ⟨⟨by simp only; omega, by simp only [List.length_map, List.length_append, List.length_replicate]; omega⟩, ?_⟩
    (conv => whnf)
    have ej : ((((j' + 1 : Nat) : Int) - 1).toNat) = j' := by omega
    refine idx_map (x := zA) (by simp only; rw [ej, List.getElem?_append_left (by simp), List.getElem?_replicate, if_pos (by omega)]) ?_
    (conv => whnf)
    refine ⟨_, _, keyA_seen (P6.of y.mode) ns, ?_⟩
    (conv => whnf)
    refine ⟨by kernel_rfl, _, f1, ?_⟩
    (conv => whnf)
    have hb := bm_of h hy e1 e3
    exact ⟨(j', b', nb, y.act :: p), [], ⟨e3, e4, by simp only [List.length_cons]; omega, by simp only; rw [← hp, e5, List.append_assoc]; rfl⟩, by simp only; omega, ⟨⟨rfl, rfl, rfl, eqI (by simp only; rw [w64] <;> omega), trivial⟩, ⟨rfl, by rw [← hb]; rfl, rows_eq (by simp only; rw [ej]; exact set_rep j' y.act p), trivial⟩⟩⟩
  · have h1 := of_decide_eq_false h1
    have hj : j = 0 := by simp only at h1; omega
    subst hj
    rw [wayTo, List.nil_append] at hp
    subst hp
    (conv => whnf)
    refine retO [.frz 2] ?_
    (conv => whnf)
    exact ⟨[], ⟨rfl, trivial⟩, ⟨rfl, trivial⟩⟩
end Go.Proofs.Ytopcjmipldkijaa

/- task.Solve. -/
namespace Go.Proofs.Ytopcjmipldkijaa
open Eng
set_option maxRecDepth 10000
attribute [local irreducible] FnOk loopW idxF retX arrF findF

theorem run_found {w : TWork} {m0 g : List Int} {lim : Int} {bs : List TBan} : ∀ (f i k : Nat) (ns : List Nd) (nd : Nd), Turn w m0 lim bs i ns → i ≤ k → k < i + f → ns[k]? = some nd → meets nd.mode g = true → (∀ j x, j < k → ns[j]? = some x → meets x.mode g = false) → runS w g lim bs f i ns = some (wayTo ns nd.dep.toNat k)
  | 0, i, k, ns, nd, _, h1, h2, _, _, _ => by omega
  | f + 1, i, k, ns, nd, ht, h1, h2, hk, hg, hn => by
    by_cases e : i = k
    · subst e
      exact run_some hk hg
    · have hkl := (List.getElem?_eq_some_iff.1 hk).1
      obtain ⟨x, hx⟩ : ∃ x, ns[i]? = some x := ⟨_, List.getElem?_eq_getElem (by omega)⟩
      have hxg := hn i x (by omega) hx
      by_cases hd : x.dep = lim
      · rw [run_skip hx hxg hd]
        exact run_found f (i + 1) k ns nd (ht.skip hx hd) (by omega) (by omega) hk hg hn
      · rw [run_grow hx hxg hd]
        have hm := mid_grow (ht.mid hx hd) (al := actsOf w x.mode) fun _ h => h
        obtain ⟨t, et⟩ := grow_pre bs i x.mode x.dep (actsOf w x.mode) ns
        rw [et] at hm ⊢
        rw [run_found f (i + 1) k (ns ++ t) nd hm.turn (by omega) (by omega) (get_pre hk) hg fun j y hj hy => hn j y hj (by rw [List.getElem?_append_left (by omega)] at hy; exact hy), way_pre ht.wf t _ _ hkl]
theorem run_drain {w : TWork} {m0 g : List Int} {lim : Int} {bs : List TBan} : ∀ (f i : Nat) (ns : List Nd), Turn w m0 lim bs i ns → (∀ k x, i ≤ k → ns[k]? = some x → x.dep = lim ∧ meets x.mode g = false) → runS w g lim bs f i ns = none
  | 0, _, _, _, _ => rfl
  | f + 1, i, ns, ht, h => by
    cases hx : ns[i]? with
    | none => exact run_end hx _
    | some x =>
      obtain ⟨h1, h2⟩ := h i x (Nat.le_refl _) hx
      rw [run_skip hx h2 h1]
      exact run_drain f (i + 1) ns (ht.skip hx h1) fun k y hk hy => h k y (by omega) hy
set_option maxHeartbeats 4000000 in
theorem task_Solve (w : TWork) (m g : List Int) (lim : Int) (bs : List TBan) (hm : mild w) (_ : g.length ≤ 4611686018427387904) (hb : bs.length ≤ 4611686018427387904) : FnOk Try.prog F.task_Solve [Wk w, Md m, Li g, I lim, .one (.dv (dBs bs))] [] 0 (SolR (solveR w m g lim bs)) [] 0 := by
  refine fnOk tab mix G.task_Solve rfl rfl (by kernel_rfl) rfl rfl ?_
  (conv => whnf)
  refine call_i (grasp_Valid w m hm) ?_
  (conv => whnf)
  cases h1 : validB w m with
  | false =>
    rw [ask_no (by rw [askB, h1]; rfl)]
    (conv => whnf)
    (conv => whnf)
    refine retO [.own 10 Y.Action 3, .frz 2] ?_
    (conv => whnf)
    exact ⟨[], ⟨rfl, trivial⟩, trivial⟩
  | true =>
  (conv => whnf)
  refine ask_m (fun h2 => ?_) (fun h2 => ?_)
  · have h2 : ¬ g.length = w.objects.length := by simp at h2; omega
    rw [ask_no (by rw [askB, decide_eq_false h2]; simp)]
    (conv => whnf)
    (conv => whnf)
    refine retO [.own 10 Y.Action 3, .frz 2] ?_
    (conv => whnf)
    exact ⟨[], ⟨rfl, trivial⟩, trivial⟩
  have h2 : g.length = w.objects.length := by simp at h2; omega
  (conv => whnf)
  refine ask_m (fun h3 => ?_) (fun h3 => ?_)
  · have h3 := of_decide_eq_true h3
    rw [ask_no (by rw [askB, decide_eq_false (p := 0 ≤ lim) (by omega)]; simp)]
    (conv => whnf)
    (conv => whnf)
    refine retO [.own 10 Y.Action 3, .frz 2] ?_
    (conv => whnf)
    exact ⟨[], ⟨rfl, trivial⟩, trivial⟩
  have h3 := of_decide_eq_false h3
  (conv => whnf)
  refine ask_m (fun h4 => ?_) (fun h4 => ?_)
  · have h4 := of_decide_eq_true h4
    rw [ask_no (by rw [askB, decide_eq_false (p := lim ≤ 16) (by omega)]; simp)]
    (conv => whnf)
    (conv => whnf)
    refine retO [.own 10 Y.Action 3, .frz 2] ?_
    (conv => whnf)
    exact ⟨[], ⟨rfl, trivial⟩, trivial⟩
  have h4 := of_decide_eq_false h4
  have hv := valid_iff.1 h1
  have h6 := hv.le6
  have h7 := hv.len
  obtain ⟨s1, s2, s3, s4⟩ := sizes_facts hv.work
  rw [solveR, if_pos (by rw [askB, h1, decide_eq_true h2, decide_eq_true (p := 0 ≤ lim) (by omega), decide_eq_true (p := lim ≤ 16) (by omega)]; rfl)]
  (conv => whnf)
  refine call_i (task_placesOf m h6) ?_
  (conv => whnf)
  refine call_i (places_meet (P6.of m) g (by omega)) ?_
  (conv => whnf)
  rw [P6.l_of h6, meets_pad _ (by omega)]
  refine ask_m (fun h5 => ?_) (fun h5 => ?_)
  · rw [run_some (nd := root m) rfl h5]
    (conv => whnf)
    refine retO [.own 10 Y.Action 3, .frz 3] ?_
    (conv => whnf)
    exact ⟨[], ⟨rfl, trivial⟩, trivial⟩
  generalize hR : runS w g lim bs (lots + 1) 0 [root m] = R
  (conv => whnf)
  refine call_i (task_newTable w s2 s3 (by omega)) ?_
  (conv => whnf)
  refine call_i (task_bannedIn w bs s1 hb) ?_
  (conv => whnf)
  refine ⟨_, _, keyA_seen (P6.of m) [], ?_⟩
  (conv => whnf)
  refine ⟨none, fun e he => (by cases he), ?_⟩
  (conv => whnf)
  refine loop_intro (fun s : Nat × Nat × List Nd => ⟨[(2, Li g), (3, I lim), (13, .one (.dv (dAcs (tableOf w)))), (14, .one (.row 3)), (15, .one (.row 4)), (16, .one (.row 5)), (17, I ((s.1 + 1 : Nat) : Int))], [(0, bWk w), (1, bMd m), (3, .mp ((banK w.objects.length bs).map enK)), (4, .mp (s.2.2.map enN)), (5, .rows Y.task_places 6 ((s.2.2.drop s.2.1).map kN))], 6⟩) (fun s => Turn w m lim bs s.2.1 s.2.2 ∧ (∀ n ∈ s.2.2, meets n.mode g = false) ∧ (∀ k x, s.2.1 ≤ k → s.2.2[k]? = some x → x.dep = s.1) ∧ s.1 ≤ lim ∧ runS w g lim bs (lots + 1 - s.2.1) s.2.1 s.2.2 = R) (fun s => lim.toNat - s.1) [] (0, 0, [root m]) [] ⟨turn_root hv (by omega), by intro n hn; simp only [List.mem_singleton] at hn; subst hn; exact h5, by intro k x _ hk; cases k <;> simp at hk; subst hk; rfl, by simp only; omega, hR⟩ ⟨⟨rfl, rfl, rfl, rfl, rfl, rfl, rfl, trivial⟩, ⟨rfl, rfl, rfl, rfl, rfl, trivial⟩⟩ ?_
  rintro ⟨e, i, ns⟩ ⟨ht, hno, hdep, hel, hr⟩
  simp only at ht hno hdep hel hr
  have hlen := ht.wf.le
  have hle := ht.le
  have hlo : lots = 1771561 := rfl
  have hee : IntKind.i64.wrap (((e + 1 : Nat) : Int) + 1) = ((e + 1 + 1 : Nat) : Int) := by rw [w64] <;> omega
  have hdl : (ns.drop i).length = ns.length - i := List.length_drop
  (conv => whnf)
  refine ask_m (fun h8 => ?_) (fun h8 => ?_)
  · have h8 := of_decide_eq_true h8
    simp only at h8
    (conv => whnf)
    refine ask_m (fun h9 => ?_) (fun h9 => ?_)
    · have h9 := of_decide_eq_true h9
      simp only [List.length_map] at h9
      (conv => whnf)
      refine loop_intro (fun s : Nat × List Nd => ⟨[(2, Li g), (3, I lim), (13, .one (.dv (dAcs (tableOf w)))), (14, .one (.row 3)), (15, .one (.row 4)), (17, I ((e + 1 : Nat) : Int)), (18, .one (.row 6)), (72, .one (.row 5)), (73, I ((ns.drop i).length : Nat)), (74, I s.1)], [(0, bWk w), (1, bMd m), (3, .mp ((banK w.objects.length bs).map enK)), (4, .mp (s.2.map enN)), (5, .rows Y.task_places 6 ((ns.drop i).map kN)), (6, .rows Y.task_places 6 ((s.2.drop ns.length).map kN))], 7⟩) (fun s => Turn w m lim bs (i + s.1) s.2 ∧ (∀ n ∈ s.2, meets n.mode g = false) ∧ s.1 ≤ (ns.drop i).length ∧ (∃ t, s.2 = ns ++ t) ∧ (∀ k x, ns.length ≤ k → s.2[k]? = some x → x.dep = ((e + 1 : Nat) : Int)) ∧ runS w g lim bs (lots + 1 - (i + s.1)) (i + s.1) s.2 = R) (fun s => (ns.drop i).length - s.1) [.own 18 Y.task_places 6] (0, ns) [] ⟨ht, hno, Nat.zero_le _, ⟨[], by simp⟩, fun k x hk hx => by have := (List.getElem?_eq_some_iff.1 hx).1; simp only at this; omega, hr⟩ ⟨⟨rfl, rfl, rfl, rfl, rfl, rfl, rfl, rfl, eqI (by simp), rfl, trivial⟩, ⟨rfl, rfl, rfl, rfl, rfl, rows_eq (by simp), trivial⟩⟩ ?_
      rintro ⟨c, ns1⟩ ⟨ht1, hno1, hc, ⟨t1, rfl⟩, hdep1, hr1⟩
      simp only at ht1 hno1 hc hdep1 hr1
      have hcc : IntKind.i64.wrap ((c : Int) + 1) = ((c + 1 : Nat) : Int) := by rw [w64] <;> omega
      have hlen1 := ht1.wf.le
      have hle1 := ht1.le
      (conv => whnf)
      refine ask_m (fun h10 => ?_) (fun h10 => ?_)
      · have h10 := of_decide_eq_true h10
        simp only at h10
        have hcl : c < (ns.drop i).length := by omega
        obtain ⟨nd, hnd⟩ : ∃ y, (ns.drop i)[c]? = some y := ⟨_, List.getElem?_eq_getElem hcl⟩
        have hnd0 : ns[i + c]? = some nd := by rw [List.getElem?_drop] at hnd; exact hnd
        have hnd1 : (ns ++ t1)[i + c]? = some nd := get_pre hnd0
        have hde := hdep (i + c) nd (by omega) hnd0
        have hdl1 : nd.dep ≠ lim := by omega
        obtain ⟨v1, v2, v3⟩ := ht1.wf.val _ nd hnd1
        have v6 := v1.le6
        have v7 := v1.len
        obtain ⟨f, hf⟩ : ∃ f, lots + 1 - (i + c) = f + 1 := ⟨lots - (i + c), by omega⟩
        rw [hf, run_grow hnd1 (hno1 nd (List.mem_of_getElem? hnd1)) hdl1] at hr1
        (conv => whnf)
        refine ⟨⟨by simp only; omega, by simp only [List.length_map]; omega⟩, ?_⟩
        (conv => whnf)
        refine idx_map (x := nd) (by simpa using hnd) ?_
        (conv => whnf)
        refine call_i (table_actions (tableOf w) (P6.of nd.mode) (by have := tab_len s2 s3; omega) (tab_hand s3)) ?_
        (conv => whnf)
        rw [acts_is v1]
        have hmid := ht1.mid hnd1 hdl1
        have hal := acts_len w nd.mode
        revert hr1
        generalize hA : actsOf w nd.mode = al at *
        intro hr1
        refine loop_intro (fun j : Nat => ⟨[(2, Li g), (3, I lim), (13, .one (.dv (dAcs (tableOf w)))), (14, .one (.row 3)), (15, .one (.row 4)), (17, I ((e + 1 : Nat) : Int)), (18, .one (.row 6)), (20, .one (.vptr 7 0)), (72, .one (.row 5)), (73, I ((ns.drop i).length : Nat)), (74, I c), (80, .one (.row 8)), (81, I al.length), (82, I j)], [(0, bWk w), (1, bMd m), (3, .mp ((banK w.objects.length bs).map enK)), (4, .mp ((grow bs (i + c) nd.mode nd.dep (ns ++ t1) (al.take j)).map enN)), (5, .rows Y.task_places 6 ((ns.drop i).map kN)), (6, .rows Y.task_places 6 (((grow bs (i + c) nd.mode nd.dep (ns ++ t1) (al.take j)).drop ns.length).map kN)), (7, bPl (P6.of nd.mode)), (8, .rows Y.Action 3 (al.map encAc))], 9⟩) (fun j => j ≤ al.length ∧ (∀ n ∈ grow bs (i + c) nd.mode nd.dep (ns ++ t1) (al.take j), meets n.mode g = false) ∧ (∀ k x, ns.length ≤ k → (grow bs (i + c) nd.mode nd.dep (ns ++ t1) (al.take j))[k]? = some x → x.dep = ((e + 1 : Nat) : Int))) (fun j => al.length - j) [] 0 [] ⟨Nat.zero_le _, hno1, hdep1⟩ ⟨⟨rfl, rfl, rfl, rfl, rfl, rfl, rfl, rfl, rfl, rfl, rfl, rfl, eqI (by simp), rfl, trivial⟩, ⟨rfl, rfl, rfl, rfl, rfl, rfl, rfl, rfl, trivial⟩⟩ ?_
        rintro j ⟨hj, hno2, hdep2⟩
        have hjj : IntKind.i64.wrap ((j : Int) + 1) = ((j + 1 : Nat) : Int) := by rw [w64] <;> omega
        have hmj : Mid w m lim bs (i + c) nd (grow bs (i + c) nd.mode nd.dep (ns ++ t1) (al.take j)) := mid_grow hmid fun a ha => hA ▸ List.mem_of_mem_take ha
        obtain ⟨t2, et2⟩ := grow_pre bs (i + c) nd.mode nd.dep (al.take j) (ns ++ t1)
        have hrest : grow bs (i + c) nd.mode nd.dep (grow bs (i + c) nd.mode nd.dep (ns ++ t1) (al.take j)) (al.drop j) = grow bs (i + c) nd.mode nd.dep (ns ++ t1) al := by
          show List.foldl _ (List.foldl _ _ _) _ = _
          rw [← List.foldl_append, List.take_append_drop]; rfl
        generalize hG : grow bs (i + c) nd.mode nd.dep (ns ++ t1) (al.take j) = gs at *
        have hgl := hmj.wf.le
        have hga := hmj.at_
        have hgt := (List.getElem?_eq_some_iff.1 hga).1
        have hn0 : ns.length ≤ gs.length := by rw [et2]; simp only [List.length_append]; omega
        (conv => whnf)
        refine ask_m (fun h11 => ?_) (fun h11 => ?_)
        · have hjl : j < al.length := by have := of_decide_eq_true h11; omega
          obtain ⟨a, haj⟩ : ∃ x, al[j]? = some x := ⟨_, List.getElem?_eq_getElem hjl⟩
          have hgr := grow_take (bs := bs) (i := i + c) (m := nd.mode) (d := nd.dep) (ns := ns ++ t1) haj
          rw [hG, addN] at hgr
          have haa : a ∈ actsOf w nd.mode := hA ▸ List.mem_of_getElem? haj
          obtain ⟨_, hcan⟩ := apply_facts (mem_acts.1 haa)
          obtain ⟨cf, _, ck⟩ := can_facts hcan
          have hk12 : a.kind = 1 ∨ a.kind = 2 := by rcases canK_kind ck with h | h; exact .inl h.1; exact .inr h.1
          obtain ⟨a1, a2⟩ := after_is v1 hcan
          have hvx := valid_set v1 hcan
          have vx6 := hvx.le6
          have vx7 := hvx.len
          have hsn := find_mode (ns := gs) (fun n hn => by obtain ⟨k, hk⟩ := List.getElem?_of_mem hn; exact (hmj.wf.val k n hk).1) hvx
          (conv => whnf)
          refine ⟨⟨by omega, by simpa using hjl⟩, ?_⟩
          (conv => whnf)
          refine idx_map (x := a) (by simpa using haj) ?_
          (conv => whnf)
          refine call_i (task_after (P6.of nd.mode) a ⟨cf.1, by omega⟩ hk12 a2) ?_
          (conv => whnf)
          rw [a1]
          generalize hx : setAt nd.mode a = x at *
          refine ⟨_, _, keyA_seen (P6.of x) gs, ?_⟩
          (conv => whnf)
          refine ⟨by kernel_rfl, ?_⟩
          rcases hsn with ⟨hs, hfn⟩ | ⟨hs, i3, x3, hfn⟩
          · refine ⟨none, hfn, ?_⟩
            rw [hs, Bool.or_false] at hgr
            (conv => whnf)
            refine ⟨_, _, keyA_ban (P6.of nd.mode) a (banK w.objects.length bs), ?_⟩
            (conv => whnf)
            refine ⟨by kernel_rfl, ?_⟩
            have hbn := banK_is s1 bs v7 a
            rcases findA_or (fun k : P6 × TAct => encPA k.1 k.2) (fun _ => (false, [.bool true])) (encPA (P6.of nd.mode) a) (banK w.objects.length bs) with ⟨f1, f2⟩ | ⟨i4, x4, f1, f2, f3⟩
            · have hb0 : bannedB bs nd.mode a = false := by
                cases h : bannedB bs nd.mode a with
                | false => rfl
                | true => exact absurd rfl (f1 _ (hbn.2 h))
              rw [if_neg (by rw [hb0]; decide)] at hgr
              refine ⟨none, f2, ?_⟩
              (conv => whnf)
              refine ⟨_, _, keyA_seen (P6.of x) gs, ?_⟩
              (conv => whnf)
              refine ⟨none, hfn, ?_⟩
              (conv => whnf)
              refine call_i (places_meet (P6.of x) g (by omega)) ?_
              (conv => whnf)
              rw [P6.l_of vx6, meets_pad _ (by omega)]
              have hwf : WfN w m lim bs (gs ++ [child (i + c) nd.mode nd.dep a]) := by
                have := (mid_add hmj haa).wf
                rwa [addN, hb0, hx, hs, if_neg (by decide)] at this
              have hck : (gs ++ [child (i + c) nd.mode nd.dep a])[gs.length]? = some (child (i + c) nd.mode nd.dep a) := by simp
              have hadd : addN bs (i + c) nd.mode nd.dep gs a = gs ++ [child (i + c) nd.mode nd.dep a] := by rw [addN, hb0, hx, hs, if_neg (by decide)]
              have hdc : (child (i + c) nd.mode nd.dep a).dep = ((e + 1 : Nat) : Int) := by simp only [child]; omega
              have ec : child (i + c) nd.mode nd.dep a = ⟨x, ((i + c : Nat) : Int), a, nd.dep + 1, nd.mode⟩ := by rw [child, hx]
              refine ask_m (fun h12 => ?_) (fun h12 => ?_)
              · have hR2 : R = some (wayTo (gs ++ [child (i + c) nd.mode nd.dep a]) (e + 1) gs.length) := by
                  obtain ⟨t3, h3⟩ := grow_pre bs (i + c) nd.mode nd.dep (al.drop (j + 1)) (gs ++ [child (i + c) nd.mode nd.dep a])
                  have h4 : grow bs (i + c) nd.mode nd.dep (ns ++ t1) al = gs ++ [child (i + c) nd.mode nd.dep a] ++ t3 := by
                    rw [← hrest, drop_cons haj, ← h3, ← hadd]; rfl
                  have hT := (mid_grow hmid (al := al) fun b hb => hA ▸ hb).turn
                  rw [h4] at hT hr1
                  have hwl := hwf.le
                  simp only [List.length_append, List.length_cons, List.length_nil] at hwl
                  have hmg : meets (child (i + c) nd.mode nd.dep a).mode g = true := by rw [ec]; exact h12
                  rw [← hr1, run_found f (i + c + 1) gs.length _ _ hT (by omega) (by omega) (get_pre hck) hmg (fun k y hk hy => hno2 y (List.mem_of_getElem? (by rw [List.append_assoc, List.getElem?_append_left hk] at hy; exact hy))), way_pre hwf t3 _ _ (by simp)]
                  rw [hdc, Int.toNat_natCast]
                have hway := task_way hwf hck hdc (by omega)
                rw [hR2, List.map_append, ec] at *
                (conv => whnf)
                refine call_i (hway) ?_
                (conv => whnf)
                (conv => whnf)
                refine retO [] ?_
                (conv => whnf)
                exact ⟨[], ⟨rfl, trivial⟩, trivial⟩
              · (conv => whnf)
                refine ⟨⟨by simp only [List.length_append, List.length_map, List.length_cons, List.length_nil, List.length_drop]; omega, by show _ * 48 ≤ _; simp only [List.length_append, List.length_map, List.length_cons, List.length_nil, List.length_drop]; omega⟩, ?_⟩
                (conv => whnf)
                exact ⟨j + 1, [(6, 13)], ⟨hjl, by rw [hgr]; intro n hn; rcases List.mem_append.1 hn with hn | hn; exact hno2 n hn; simp only [List.mem_singleton] at hn; subst hn; rw [ec]; exact h12, by rw [hgr]; intro k y hk hy; rcases get_snoc hy with hy | ⟨_, rfl⟩; exact hdep2 k y hk hy; exact hdc⟩, by omega, ⟨⟨rfl, rfl, rfl, rfl, rfl, rfl, rfl, rfl, rfl, rfl, rfl, rfl, rfl, eqI hjj, trivial⟩, ⟨rfl, rfl, rfl, mp_eq (by rw [hgr, List.map_append, ec]; rfl), rfl, rows_eq (by rw [hgr, List.drop_append_of_le_length hn0, List.map_append, ec]; rfl), rfl, rfl, trivial⟩⟩⟩
            · have hb1 : bannedB bs nd.mode a = true := by
                have := encPA_inj f2
                have e4 : x4 = (P6.of nd.mode, a) := Prod.ext this.1 this.2
                exact hbn.1 (e4 ▸ List.mem_of_getElem? f1)
              rw [if_pos hb1] at hgr
              refine ⟨_, f3, ?_⟩
              (conv => whnf)
              exact ⟨j + 1, [], ⟨hjl, by rw [hgr]; exact hno2, by rw [hgr]; exact hdep2⟩, by omega, ⟨⟨rfl, rfl, rfl, rfl, rfl, rfl, rfl, rfl, rfl, rfl, rfl, rfl, rfl, eqI hjj, trivial⟩, ⟨rfl, rfl, rfl, mp_eq (by rw [hgr]), rfl, rows_eq (by rw [hgr]), rfl, rfl, trivial⟩⟩⟩
          · refine ⟨_, hfn, ?_⟩
            rw [hs, Bool.or_true, if_pos rfl] at hgr
            (conv => whnf)
            exact ⟨j + 1, [], ⟨hjl, by rw [hgr]; exact hno2, by rw [hgr]; exact hdep2⟩, by omega, ⟨⟨rfl, rfl, rfl, rfl, rfl, rfl, rfl, rfl, rfl, rfl, rfl, rfl, rfl, eqI hjj, trivial⟩, ⟨rfl, rfl, rfl, mp_eq (by rw [hgr]), rfl, rows_eq (by rw [hgr]), rfl, rfl, trivial⟩⟩⟩
        · have hjl : j = al.length := by have := of_decide_eq_false h11; omega
          subst hjl
          rw [List.take_length] at hG
          rw [hG] at hr1
          (conv => whnf)
          exact ⟨(c + 1, gs), [], ⟨hmj.turn, hno2, hcl, ⟨t1 ++ t2, by rw [et2, List.append_assoc]⟩, hdep2, by rw [show lots + 1 - (i + (c + 1)) = f by omega]; exact hr1⟩, by simp only; omega, ⟨⟨rfl, rfl, rfl, rfl, rfl, rfl, rfl, rfl, rfl, eqI hcc, trivial⟩, ⟨rfl, rfl, rfl, rfl, rfl, rfl, trivial⟩⟩⟩
      · have h10 := of_decide_eq_false h10
        simp only at h10
        have hcl : i + c = ns.length := by omega
        rw [hcl] at ht1 hr1
        (conv => whnf)
        exact ⟨(e + 1, ns.length, ns ++ t1), [(5, 6)], ⟨ht1, hno1, hdep1, by simp only; omega, hr1⟩, by simp only; omega, ⟨⟨rfl, rfl, rfl, rfl, rfl, rfl, eqI hee, trivial⟩, ⟨rfl, rfl, rfl, rfl, rfl, trivial⟩⟩⟩
    · have h9 := of_decide_eq_false h9
      simp only [List.length_map] at h9
      rw [run_end (List.getElem?_eq_none (by omega))] at hr
      subst hr
      (conv => whnf)
      refine retO [.own 10 Y.Action 3, .frz 6] ?_
      (conv => whnf)
      exact ⟨[], ⟨rfl, trivial⟩, trivial⟩
  · have h8 := of_decide_eq_false h8
    simp only at h8
    rw [run_drain _ i ns ht fun k x hk hx => ⟨by rw [hdep k x hk hx]; omega, hno x (List.mem_of_getElem? hx)⟩] at hr
    subst hr
    (conv => whnf)
    (conv => whnf)
    refine retO [.own 10 Y.Action 3, .frz 6] ?_
    (conv => whnf)
    exact ⟨[], ⟨rfl, trivial⟩, trivial⟩
end Go.Proofs.Ytopcjmipldkijaa

/- Common ground: sources; data of the parameters' types. -/
namespace Go.Proofs.Ytopcjmipldkijaa
open Eng
set_option maxRecDepth 10000
attribute [local irreducible] FnOk loopW idxF retX arrF

theorem mk_Round (x m : Int) (hm : 0 < m) (hm2 : m ≤ 4611686018427387904) : FnOk Try.prog F.mk_Round [I x, I m] [] 0 (I (x % m)) [] 0 := by
  refine fnOk tab mix G.mk_Round rfl rfl (by kernel_rfl) rfl rfl ?_
  obtain ⟨h1, h2, h3, h4⟩ := tmod_pos (x := x) hm
  (conv => whnf)
  refine ⟨by omega, ?_⟩
  repeat' ((conv => whnf); first | refine ask_m (fun h => ?_) (fun h => ?_) | refine ret0 ?_)
  all_goals (conv => whnf)
  · have h : x.tmod m < 0 := by simpa using h
    exact ret_i (by rw [w64 (by omega) (by omega)]; exact h1 h) rfl
  · have h : ¬ x.tmod m < 0 := by simpa using h
    exact ret_i (h2 (by omega)) rfl

/- sources -/
abbrev Src (xs : List Int) (k : Nat) : Box := .vars Y.mk_Source [.dv (.lst 1 (xs.map encI)), .dv (.int .i64 k)]
def nxt (xs : List Int) (k : Nat) (m : Int) : Int := match xs[k]? with
  | some x => x % m
  | none => 0
def adv (xs : List Int) (k : Nat) : Nat := if k < xs.length then k + 1 else k
theorem nxt_bd {l : List Int} {j : Nat} {m : Int} (hm : 0 < m) : 0 ≤ nxt l j m ∧ nxt l j m < m := by
  unfold nxt; split
  · exact ⟨Int.emod_nonneg _ (by omega), Int.emod_lt_of_pos _ (by omega)⟩
  · omega
theorem mk_From_k (xs : List Int) : FnOk Try.prog F.mk_From [Li xs] [] 0 (.one (.vptr 0 0)) [(0, Src xs 0)] 1 := by
  refine fnOk tab mix G.mk_From rfl rfl (by kernel_rfl) rfl rfl ?_
  repeat' ((conv => whnf); first | refine ask_m (fun h => ?_) (fun h => ?_) | refine ret0 ?_)
  exact ⟨[], ⟨rfl, trivial⟩, ⟨rfl, trivial⟩⟩
theorem mk_Next_k (xs : List Int) (k : Nat) (m : Int) (hm : 0 < m) (hm2 : m ≤ 4611686018427387904) (hx : xs.length ≤ 4611686018427387904) (hk : k ≤ xs.length) : FnOk Try.prog F.mk_Source_Next [.one (.vptr 0 0), I m] [(0, Src xs k)] 1 (I (nxt xs k m)) [(0, Src xs (adv xs k))] 1 := by
  refine fnOk tab mix G.mk_Source_Next rfl rfl (by kernel_rfl) rfl rfl ?_
  repeat' ((conv => whnf); first | refine ask_m (fun h => ?_) (fun h => ?_) | refine ret0 ?_)
  · have hl : ¬ k < xs.length := by simp at h; omega
    have h1 : nxt xs k m = 0 := by unfold nxt; rw [List.getElem?_eq_none (by omega)]
    have h2 : adv xs k = k := by simp [adv, hl]
    rw [h1, h2]
    exact ⟨[], ⟨rfl, trivial⟩, ⟨rfl, trivial⟩⟩
  · have hl : k < xs.length := by simp at h; omega
    obtain ⟨x, hxk⟩ : ∃ x, xs[k]? = some x := ⟨_, List.getElem?_eq_getElem hl⟩
    have h1 : nxt xs k m = x % m := by unfold nxt; rw [hxk]
    have h2 : adv xs k = k + 1 := by simp [adv, hl]
    have w1 : IntKind.i64.wrap ((k : Int) + 1) = ((k + 1 : Nat) : Int) := by rw [w64] <;> omega
    have w2 : IntKind.i64.wrap (((k + 1 : Nat) : Int) - 1) = k := by rw [w64] <;> omega
    rw [h1, h2]
    (conv => whnf)
    rw [w1, w2]
    refine ⟨by omega, idx_map (by simpa using hxk) ?_⟩
    (conv => whnf)
    refine ⟨_, _, _, mk_Round x m hm hm2, ?_⟩
    (conv => whnf)
    refine ret0 ?_
    exact ⟨[], ⟨rfl, trivial⟩, ⟨rfl, trivial⟩⟩
/-- a source of which j numbers have been asked -/
abbrev SrcJ (l : List Int) (j : Nat) : Box := Src l (min j l.length)
theorem nxt_min {l : List Int} {j : Nat} {m : Int} : nxt l (min j l.length) m = nxt l j m := by
  unfold nxt
  by_cases h : j < l.length
  · rw [Nat.min_eq_left (by omega)]
  · rw [Nat.min_eq_right (by omega), List.getElem?_eq_none (Nat.le_refl _), List.getElem?_eq_none (by omega)]
theorem adv_min {l : List Int} {j : Nat} : adv l (min j l.length) = min (j + 1) l.length := by
  unfold adv; split <;> omega
theorem mk_Next (l : List Int) (j : Nat) (m : Int) (hm : 0 < m) (hm2 : m ≤ 4611686018427387904) (hl : l.length ≤ 4611686018427387904) : FnOk Try.prog F.mk_Source_Next [.one (.vptr 0 0), I m] [(0, SrcJ l j)] 1 (I (nxt l j m)) [(0, SrcJ l (j + 1))] 1 := by
  have := mk_Next_k l (min j l.length) m hm hm2 hl (by omega)
  rw [nxt_min, adv_min] at this
  exact this
theorem mk_From (l : List Int) : FnOk Try.prog F.mk_From [Li l] [] 0 (.one (.vptr 0 0)) [(0, SrcJ l 0)] 1 := by
  show FnOk Try.prog F.mk_From [Li l] [] 0 (.one (.vptr 0 0)) [(0, Src l (min 0 l.length))] 1
  rw [Nat.zero_min]
  exact mk_From_k l
theorem mk_Signed (l : List Int) (j : Nat) (m M : Int) (hM : 2 * m + 1 = M) (hm : 0 < m) (hm2 : m ≤ 1152921504606846976) (hl : l.length ≤ 4611686018427387904) : FnOk Try.prog F.mk_Source_Signed [.one (.vptr 0 0), I m] [(0, SrcJ l j)] 1 (I (nxt l j M - m)) [(0, SrcJ l (j + 1))] 1 := by
  refine fnOk tab mix G.mk_Source_Signed rfl rfl (by kernel_rfl) rfl rfl ?_
  have w1 : IntKind.i64.wrap (2 * m) = 2 * m := by rw [w64] <;> omega
  have w2 : IntKind.i64.wrap (2 * m + 1) = M := by rw [w64] <;> omega
  have hn := nxt_bd (l := l) (j := j) (m := M) (by omega)
  have w3 : IntKind.i64.wrap (nxt l j M - m) = nxt l j M - m := by rw [w64] <;> omega
  (conv => whnf)
  rw [w1, w2]
  refine ⟨_, _, _, mk_Next l j M (by omega) (by omega) hl, ?_⟩
  (conv => whnf)
  refine ret0 ?_
  exact ⟨[], ⟨eqI w3, trivial⟩, ⟨rfl, trivial⟩⟩

/- data of the parameters' types -/
theorem ty_int64 {n : Nat} {ds : List DV} (h : Typed T (n + 1) Y.int64 ds) : ∃ a, ds = encI a := by
  obtain ⟨a, h, _⟩ := h
  exact ⟨a, h⟩
theorem ty_int {n : Nat} {ds : List DV} (h : Typed T (n + 1) Y.int ds) : ∃ a, ds = encI a := by
  obtain ⟨a, h, _⟩ := h
  exact ⟨a, h⟩
theorem ty_s_int {n : Nat} {ds : List DV} (h : Typed T (n + 2) Y.s_int ds) : ∃ xs : List Int, ds = [.lst 1 (xs.map encI)] ∧ xs.length ≤ 17592186043904 := by
  obtain ⟨rs, h1, h2, _, h3⟩ := h
  obtain ⟨xs, rfl⟩ := map_of (enc := encI) fun r hr => ty_int (h3 r hr)
  refine ⟨xs, h1, ?_⟩
  have : xs.length * 8 ≤ reachBytes := by simpa using h2
  unfold reachBytes at this; omega
/- the same, each with a bound -/
theorem tyB_int {n : Nat} {ds : List DV} (h : Typed T (n + 1) Y.int ds) : ∃ a, ds = encI a ∧ True := by
  obtain ⟨a, h⟩ := ty_int h
  exact ⟨a, h, trivial⟩
theorem tyB_s_int {n : Nat} {ds : List DV} (h : Typed T (n + 2) Y.s_int ds) : ∃ xs : List Int, ds = [.lst 1 (xs.map encI)] ∧ xs.length ≤ 17592186043904 := ty_s_int h
end Go.Proofs.Ytopcjmipldkijaa

/- The makers: letters, joints. -/
namespace Go.Proofs.Ytopcjmipldkijaa
open Eng
set_option maxRecDepth 10000
attribute [local irreducible] FnOk loopW idxF retX arrF

def letter (k : Nat) : ByteArray := ⟨#[(97 + k).toUInt8]⟩
theorem letter_cut (k : Nat) (hk : k < 10) : (ByteArray.mk #[97, 98, 99, 100, 101, 102, 103, 104, 105, 106]).extract k (k + 1) = letter k := by
  have h : ∀ k, k < 10 → (ByteArray.mk #[97, 98, 99, 100, 101, 102, 103, 104, 105, 106]).extract k (k + 1) = letter k := by decide
  exact h k hk
theorem mk_letter (k : Nat) (hk : k < 10) : FnOk Try.prog F.mk_letter [I k] [] 0 (Tx (letter k)) [] 0 := by
  refine fnOk tab mix G.mk_letter rfl rfl (by kernel_rfl) rfl rfl ?_
  (conv => whnf)
  have hkk : IntKind.i64.wrap ((k : Int) + 1) = ((k + 1 : Nat) : Int) := by rw [w64] <;> omega
  rw [hkk]
  refine ⟨⟨by omega, by omega, by show _ ≤ (10 : Int); omega⟩, ?_⟩
  (conv => whnf)
  refine ret0 ?_
  rw [Int.toNat_natCast, Int.toNat_natCast]
  exact ret_dv (congrArg DV.str (letter_cut k hk)) rfl
def kindOf (n : Int) : Int := [3, 3, 1, 2, 4, 5, 3, 0].getD n.toNat 0
def jParent (l : List Int) (p i : Nat) : Int := if nxt l (p + 3) 4 = 1 then -1 else (i : Int) - 1
def jOff (l : List Int) (p i : Nat) : Vec := if 0 < i then ⟨131072, (nxt l (p + 4) 5 - 2) * 32768, (nxt l (p + 5) 3 - 1) * 32768⟩ else ⟨0, 0, 0⟩
def jAt (p i : Nat) : Nat := if 0 < i then p + 6 else p + 4
def jSpan (l : List Int) (q : Nat) (kd : Int) : Int × Int × Nat :=
  if kd = 0 then (0, 0, q)
  else if kd = 4 ∨ kd = 5 then ((0 - nxt l q 3) * 65536, nxt l (q + 1) 4 * 32768, q + 2)
  else ((0 - nxt l q 5) * 8192, (1 + nxt l (q + 1) 4) * 8192 + nxt l (q + 2) 3, q + 3)
def jKind (l : List Int) (p : Nat) : Int := kindOf (nxt l (p + 2) 8)
def mkJoint (l : List Int) (p i : Nat) : Joint :=
  ⟨letter i, jKind l p, jParent l p i, jOff l p i, (jSpan l (jAt p i) (jKind l p)).1, (jSpan l (jAt p i) (jKind l p)).2.1, 1 + nxt l p 4, 65536, 65536 + nxt l (p + 1) 3, 327680⟩
def mkJointAt (l : List Int) (p i : Nat) : Nat := (jSpan l (jAt p i) (jKind l p)).2.2
theorem kind_at {n : Int} (h0 : 0 ≤ n) (h8 : n < 8) : [CV.dv (.int .i64 3), .dv (.int .i64 3), .dv (.int .i64 1), .dv (.int .i64 2), .dv (.int .i64 4), .dv (.int .i64 5), .dv (.int .i64 3), .dv (.int .i64 0)][n.toNat]? = some (.dv (.int .i64 (kindOf n))) := by
  obtain ⟨k, rfl⟩ : ∃ k : Nat, n = k := ⟨n.toNat, by omega⟩
  rw [kindOf, Int.toNat_natCast]
  match k, h8 with
  | 0, _ | 1, _ | 2, _ | 3, _ | 4, _ | 5, _ | 6, _ | 7, _ => rfl
  | k + 8, h => omega
abbrev Jo (j : Joint) : SV := .agg [.dv (.str j.name), .dv (.int .i64 j.kind), .dv (.int .i64 j.parent), .dv (.int .i64 j.off.x), .dv (.int .i64 j.off.y), .dv (.int .i64 j.off.z), .dv (.int .i64 j.lo), .dv (.int .i64 j.hi), .dv (.int .i64 j.weight), .dv (.int .i64 j.speed), .dv (.int .i64 j.accel), .dv (.int .i64 j.torque)]
theorem w_lo {a : Int} (h0 : 0 ≤ a) (h1 : a < 5) : IntKind.i64.wrap ((IntKind.i64.wrap (IntKind.i64.wrap (0 - a) * 65536)).tdiv 8) = (0 - a) * 8192 := by
  rw [w64 (x := 0 - a) (by omega) (by omega), w64 (x := (0 - a) * 65536) (by omega) (by omega), show (0 - a) * 65536 = ((0 - a) * 8192) * 8 by omega, Int.mul_tdiv_cancel _ (by decide), w64] <;> omega
theorem w_hi {a b : Int} (h0 : 0 ≤ a) (h1 : a < 4) (h2 : 0 ≤ b) (h3 : b < 3) : IntKind.i64.wrap (IntKind.i64.wrap ((IntKind.i64.wrap (IntKind.i64.wrap (1 + a) * 65536)).tdiv 8) + b) = (1 + a) * 8192 + b := by
  rw [w64 (x := 1 + a) (by omega) (by omega), w64 (x := (1 + a) * 65536) (by omega) (by omega), show (1 + a) * 65536 = ((1 + a) * 8192) * 8 by omega, Int.mul_tdiv_cancel _ (by decide), w64 (x := (1 + a) * 8192) (by omega) (by omega), w64] <;> omega
end Go.Proofs.Ytopcjmipldkijaa

/- The makers: points. -/
namespace Go.Proofs.Ytopcjmipldkijaa
open Eng
set_option maxRecDepth 10000
attribute [local irreducible] FnOk loopW idxF retX arrF

def mkPt (l : List Int) (b : Vec) (q : Nat) : Vec := ⟨b.x + (nxt l q 7 - 3) * 32768, b.y + (nxt l (q + 1) 5 - 2) * 32768, b.z + (nxt l (q + 2) 5 - 2) * 32768⟩
def ptsTo (l : List Int) (b : Vec) (p k : Nat) : List Vec := b :: (List.range k).map fun i => mkPt l b (p + 1 + 3 * i)
def nPts (l : List Int) (p : Nat) : Nat := (nxt l p 4).toNat
def mkPts (l : List Int) (b : Vec) (p : Nat) : List Vec := ptsTo l b p (nPts l p)
def mkPtsAt (l : List Int) (p : Nat) : Nat := p + 1 + 3 * nPts l p
theorem ptsTo_succ (l : List Int) (b : Vec) (p k : Nat) : ptsTo l b p (k + 1) = ptsTo l b p k ++ [mkPt l b (p + 1 + 3 * k)] := by
  simp [ptsTo, List.range_succ]
def near (b : Vec) : Prop := (-1099511627776 ≤ b.x ∧ b.x ≤ 1099511627776) ∧ (-1099511627776 ≤ b.y ∧ b.y ≤ 1099511627776) ∧ (-1099511627776 ≤ b.z ∧ b.z ≤ 1099511627776)
theorem w_co {a c : Int} (h1 : -1099511627776 ≤ a) (h2 : a ≤ 1099511627776) (h3 : -10000 ≤ c) (h4 : c ≤ 10000) : IntKind.i64.wrap (a + IntKind.i64.wrap (c * 32768)) = a + c * 32768 := by
  rw [w64 (x := c * 32768) (by omega) (by omega), w64] <;> omega
end Go.Proofs.Ytopcjmipldkijaa

/- The makers: robots. -/
namespace Go.Proofs.Ytopcjmipldkijaa
open Eng
set_option maxRecDepth 10000
attribute [local irreducible] FnOk loopW idxF retX arrF

def jPos (l : List Int) (p : Nat) : Nat → Nat
  | 0 => p
  | k + 1 => mkJointAt l (jPos l p k) k
def mkJoints (l : List Int) (p k : Nat) : List Joint := (List.range k).map fun i => mkJoint l (jPos l p i) i
theorem mkJoints_succ (l : List Int) (p k : Nat) : mkJoints l p (k + 1) = mkJoints l p k ++ [mkJoint l (jPos l p k) k] := by
  simp [mkJoints, List.range_succ]
def mkMass (l : List Int) (n : Nat) (q : Nat) : Mass := ⟨nxt l q n, 1 + nxt l (q + 1) 9000, ⟨(nxt l (q + 2) 7 - 3) * 32768, 0, (nxt l (q + 3) 5 - 2) * 32768⟩⟩
def mkMasses (l : List Int) (n q k : Nat) : List Mass := (List.range k).map fun i => mkMass l n (q + 1 + 4 * i)
theorem mkMasses_succ (l : List Int) (n q k : Nat) : mkMasses l n q (k + 1) = mkMasses l n q k ++ [mkMass l n (q + 1 + 4 * k)] := by
  simp [mkMasses, List.range_succ]
def nJ (l : List Int) (p : Nat) : Nat := 1 + (nxt l p 3).toNat
def qM (l : List Int) (p : Nat) : Nat := jPos l (p + 1) (nJ l p)
def nM (l : List Int) (p : Nat) : Nat := (nxt l (qM l p) 3).toNat
def mkRobot (l : List Int) (p : Nat) : Robot := ⟨mkJoints l (p + 1) (nJ l p), mkMasses l (nJ l p) (qM l p) (nM l p)⟩
def mkRobotAt (l : List Int) (p : Nat) : Nat := qM l p + 1 + 4 * nM l p
end Go.Proofs.Ytopcjmipldkijaa

/- The makers: scenes. -/
namespace Go.Proofs.Ytopcjmipldkijaa
open Eng
set_option maxRecDepth 10000
attribute [local irreducible] FnOk loopW idxF retX arrF

def shPos (l : List Int) (q : Nat) : Nat → Nat
  | 0 => q
  | k + 1 => if nxt l (shPos l q k) 5 < 4 then mkPtsAt l (shPos l q k + 3) else shPos l q k + 1
def shOf (l : List Int) (q i : Nat) : List Shape := if nxt l q 5 < 4 then [⟨i, (1 + nxt l (q + 1) 3) * 8192, mkPts l ⟨nxt l (q + 2) 4 * 32768, 0, 0⟩ (q + 3)⟩] else []
def shLinks (l : List Int) (q k : Nat) : List Shape := (List.range k).flatMap fun i => shOf l (shPos l q i) i
theorem shLinks_succ (l : List Int) (q k : Nat) : shLinks l q (k + 1) = shLinks l q k ++ shOf l (shPos l q k) k := by
  simp [shLinks, List.range_succ]
theorem shLinks_len (l : List Int) (q k : Nat) : (shLinks l q k).length ≤ k := by
  induction k with
  | zero => simp [shLinks]
  | succ k ih =>
    rw [shLinks_succ, List.length_append]
    have : (shOf l (shPos l q k) k).length ≤ 1 := by unfold shOf; split <;> simp
    omega
def wPos (l : List Int) (q : Nat) : Nat → Nat
  | 0 => q
  | k + 1 => mkPtsAt l (wPos l q k + 4)
def shW (l : List Int) (q : Nat) : Shape := ⟨-1, (1 + nxt l (q + 3) 4) * 8192, mkPts l ⟨(nxt l q 19 - 9) * 32768, (nxt l (q + 1) 19 - 9) * 32768, (nxt l (q + 2) 5 - 2) * 32768⟩ (q + 4)⟩
def shWs (l : List Int) (q k : Nat) : List Shape := (List.range k).map fun i => shW l (wPos l q i)
theorem shWs_succ (l : List Int) (q k : Nat) : shWs l q (k + 1) = shWs l q k ++ [shW l (wPos l q k)] := by
  simp [shWs, List.range_succ]
def scQ1 (l : List Int) : Nat := shPos l (mkRobotAt l 0) (mkRobot l 0).joints.length
def scN (l : List Int) : Nat := 1 + (nxt l (scQ1 l) 3).toNat
def scQ2 (l : List Int) : Nat := wPos l (scQ1 l + 1) (scN l)
def mkSkips (l : List Int) (q n : Nat) : List Skip := if nxt l q 5 = 1 then [⟨-1, nxt l (q + 1) n⟩] else []
def mkScene (l : List Int) : Scene := ⟨mkRobot l 0, shLinks l (mkRobotAt l 0) (mkRobot l 0).joints.length ++ shWs l (scQ1 l + 1) (scN l), mkSkips l (scQ2 l) (mkRobot l 0).joints.length⟩
theorem w_rad {a : Int} (h0 : 0 ≤ a) (h1 : a < 4) : IntKind.i64.wrap ((IntKind.i64.wrap (IntKind.i64.wrap (1 + a) * 65536)).tdiv 8) = (1 + a) * 8192 := by
  rw [w64 (x := 1 + a) (by omega) (by omega), w64 (x := (1 + a) * 65536) (by omega) (by omega), show (1 + a) * 65536 = ((1 + a) * 8192) * 8 by omega, Int.mul_tdiv_cancel _ (by decide), w64] <;> omega
theorem near_mk {x y z : Int} (hx : -1099511627776 ≤ x ∧ x ≤ 1099511627776) (hy : -1099511627776 ≤ y ∧ y ≤ 1099511627776) (hz : -1099511627776 ≤ z ∧ z ≤ 1099511627776) : near ⟨x, y, z⟩ := ⟨hx, hy, hz⟩
theorem joints_len (l : List Int) (p : Nat) : 1 ≤ (mkRobot l p).joints.length ∧ (mkRobot l p).joints.length ≤ 3 := by
  have := nxt_bd (l := l) (j := p) (m := 3) (by omega)
  simp [mkRobot, mkJoints, nJ]; omega
end Go.Proofs.Ytopcjmipldkijaa

/- What the makers make is valid. No program in sight. -/
namespace Go.Proofs.Ytopcjmipldkijaa
open Eng
set_option maxRecDepth 10000

/-- what is asked of a joint but for its name -/
theorem inV_mk {x y z m : Int} (h1 : -m ≤ x ∧ x ≤ m) (h2 : -m ≤ y ∧ y ≤ m) (h3 : -m ≤ z ∧ z ≤ m) : inV ⟨x, y, z⟩ m = true := by
  simp [inV]; omega
theorem letter_name : ∀ k, k < 10 → nameOk (letter k) = true := by decide
theorem letter_ne : ∀ k, k < 10 → ∀ j, j < 10 → letter k = letter j → k = j := by decide
theorem kindOf_mem {n : Int} (h0 : 0 ≤ n) (h8 : n < 8) : kindOf n = 3 ∨ kindOf n = 1 ∨ kindOf n = 2 ∨ kindOf n = 4 ∨ kindOf n = 5 ∨ kindOf n = 0 := by
  obtain ⟨k, rfl⟩ : ∃ k : Nat, n = k := ⟨n.toNat, by omega⟩
  rw [kindOf, Int.toNat_natCast]
  match k, h8 with
  | 0, _ | 1, _ | 2, _ | 3, _ | 4, _ | 5, _ | 6, _ | 7, _ => decide
  | k + 8, h => omega
theorem mkJoint_body (l : List Int) (p i : Nat) : bodyOk i (mkJoint l p i) := by
  have hk := kindOf_mem (nxt_bd (l := l) (j := p + 2) (m := 8) (by omega)).1 (nxt_bd (l := l) (j := p + 2) (m := 8) (by omega)).2
  refine ⟨?_, ?_, ?_, ?_, ?_⟩
  · show 0 ≤ kindOf _ ∧ kindOf _ ≤ 6
    omega
  · show -1 ≤ jParent l p i ∧ jParent l p i < (i : Int)
    unfold jParent; split <;> omega
  · show inV (jOff l p i) _ = true
    have h1 := nxt_bd (l := l) (j := p + 4) (m := 5) (by omega)
    have h2 := nxt_bd (l := l) (j := p + 5) (m := 3) (by omega)
    unfold jOff; split
    · exact inV_mk (by omega) (by omega) (by omega)
    · rfl
  · show (jSpan l (jAt p i) (jKind l p)).1 ≤ (jSpan l (jAt p i) (jKind l p)).2.1 ∧ - reach (jKind l p) ≤ (jSpan l (jAt p i) (jKind l p)).1 ∧ (jSpan l (jAt p i) (jKind l p)).2.1 ≤ reach (jKind l p)
    generalize jAt p i = q
    have h1 := nxt_bd (l := l) (j := q) (m := 3) (by omega)
    have h2 := nxt_bd (l := l) (j := q + 1) (m := 4) (by omega)
    have h3 := nxt_bd (l := l) (j := q) (m := 5) (by omega)
    have h4 := nxt_bd (l := l) (j := q + 2) (m := 3) (by omega)
    have hk' : jKind l p = 3 ∨ jKind l p = 1 ∨ jKind l p = 2 ∨ jKind l p = 4 ∨ jKind l p = 5 ∨ jKind l p = 0 := hk
    rcases hk' with e | e | e | e | e | e <;> rw [e] <;> simp [jSpan, reach] <;> omega
  · show (from1 (1 + nxt l p 4) 1024 && from1 65536 1048576 && from1 (65536 + nxt l (p + 1) 3) 1048576 && from1 327680 1099511627776) = true
    have h1 := nxt_bd (l := l) (j := p) (m := 4) (by omega)
    have h2 := nxt_bd (l := l) (j := p + 1) (m := 3) (by omega)
    simp [from1]; omega
theorem mkJoints_at {l : List Int} {p n k : Nat} {j : Joint} (h : (mkJoints l p n)[k]? = some j) : k < n ∧ j = mkJoint l (jPos l p k) k := by
  unfold mkJoints at h
  rw [List.getElem?_map] at h
  simp only [Option.map_eq_some_iff] at h
  obtain ⟨i, hi, rfl⟩ := h
  obtain ⟨h1, h2⟩ := List.getElem?_eq_some_iff.1 hi
  simp at h1 h2
  subst h2
  exact ⟨h1, rfl⟩
theorem mkJoints_ok (l : List Int) (p n : Nat) (hn : n ≤ 10) : jointsErr (mkJoints l p n) 0 (mkJoints l p n) = 0 := by
  refine jointsErr_zero fun k j hj => ?_
  obtain ⟨h1, h2⟩ := mkJoints_at hj
  rw [Nat.zero_add]
  refine jointErr_zero ?_ ?_ ?_
  · rw [h2]; exact letter_name k (by omega)
  · have := find_at (k := 0) hj fun i' j' hi hj' e => by
      obtain ⟨h3, h4⟩ := mkJoints_at hj'
      rw [h2, h4] at e
      have := letter_ne i' (by omega) k (by omega) e
      omega
    rw [this]; simp
  · rw [h2]; exact mkJoint_body l _ k
theorem linkOk_mk {n : Nat} {k : Int} (h1 : -1 ≤ k) (h2 : k < (n : Int)) : linkOk n k = true := by simp [linkOk]; omega
theorem massOk_mk {n : Nat} {a b : Int} {v : Vec} (h1 : 0 ≤ a) (h2 : a < (n : Int)) (h3 : 1 ≤ b) (h4 : b ≤ 65536) (h5 : inV v 4194304 = true) : massOk n ⟨a, b, v⟩ = true := by simp [massOk, from1, h5]; omega
theorem mkMass_ok (l : List Int) (n q : Nat) (hn : 0 < n) : massOk n (mkMass l n q) = true := by
  have h1 := nxt_bd (l := l) (j := q) (m := n) (by omega)
  have h2 := nxt_bd (l := l) (j := q + 1) (m := 9000) (by omega)
  have h3 := nxt_bd (l := l) (j := q + 2) (m := 7) (by omega)
  have h4 := nxt_bd (l := l) (j := q + 3) (m := 5) (by omega)
  have h5 : inV ⟨(nxt l (q + 2) 7 - 3) * 32768, 0, (nxt l (q + 3) 5 - 2) * 32768⟩ 4194304 = true := inV_mk (by omega) (by omega) (by omega)
  exact massOk_mk h1.1 h1.2 (by omega) (by omega) h5
theorem robot_valid {r : Robot} (h1 : 1 ≤ r.joints.length) (h2 : r.joints.length ≤ 10) (h3 : jointsErr r.joints 0 r.joints = 0) (h4 : r.masses.length ≤ 32) (h5 : r.masses.all (massOk r.joints.length) = true) : checkRobot r = 0 := by
  unfold checkRobot
  rw [if_neg (by omega), if_neg (by rw [h3]; simp), if_neg (by rw [h5]; simp; omega)]
theorem nJ_bd (l : List Int) (p : Nat) : 1 ≤ nJ l p ∧ nJ l p ≤ 3 := by
  have := nxt_bd (l := l) (j := p) (m := 3) (by omega)
  unfold nJ; omega
theorem mkJoints_len (l : List Int) (p n : Nat) : (mkJoints l p n).length = n := by simp [mkJoints]
theorem mkRobot_ok (l : List Int) (p : Nat) : checkRobot (mkRobot l p) = 0 := by
  have hn := nJ_bd l p
  have hl : (mkRobot l p).joints.length = nJ l p := mkJoints_len l (p + 1) (nJ l p)
  have hm := nxt_bd (l := l) (j := qM l p) (m := 3) (by omega)
  refine robot_valid (by omega) (by omega) (mkJoints_ok l (p + 1) (nJ l p) (by omega)) ?_ ?_
  · simp [mkRobot, mkMasses, nM]; omega
  · rw [hl, List.all_eq_true]
    intro m hmm
    simp only [mkRobot, mkMasses, List.mem_map] at hmm
    obtain ⟨i, _, rfl⟩ := hmm
    exact mkMass_ok l (nJ l p) _ (by omega)
theorem shapesErr_zero {n : Nat} : ∀ {l : List Shape}, (∀ x ∈ l, shapeErr n x = 0) → shapesErr n l = 0
  | [], _ => rfl
  | x :: l, h => by rw [shapesErr, if_pos (h x (by simp))]; exact shapesErr_zero fun y hy => h y (by simp [hy])
theorem shapeErr_zero {n : Nat} {x : Shape} (h1 : linkOk n x.link = true) (h2 : 1 ≤ x.radius ∧ x.radius ≤ 1048576) (h3 : 1 ≤ x.points.length ∧ x.points.length ≤ 8) (h4 : x.points.all (inV · 4194304) = true) : shapeErr n x = 0 := by
  unfold shapeErr
  rw [if_neg (by rw [h1]; rintro (h | h | h | h | h) <;> first | contradiction | omega), if_neg (by rw [h4]; simp)]
theorem mkPts_len (l : List Int) (b : Vec) (p : Nat) : 1 ≤ (mkPts l b p).length ∧ (mkPts l b p).length ≤ 4 := by
  have := nxt_bd (l := l) (j := p) (m := 4) (by omega)
  simp [mkPts, ptsTo, nPts]; omega
theorem mkPts_in (l : List Int) (b : Vec) (p : Nat) (hx : -1048576 ≤ b.x ∧ b.x ≤ 1048576) (hy : -1048576 ≤ b.y ∧ b.y ≤ 1048576) (hz : -1048576 ≤ b.z ∧ b.z ≤ 1048576) : (mkPts l b p).all (inV · 4194304) = true := by
  rw [List.all_eq_true]
  intro v hv
  simp only [mkPts, ptsTo, List.mem_cons, List.mem_map] at hv
  rcases hv with rfl | ⟨i, _, rfl⟩
  · obtain ⟨x, y, z⟩ := v
    simp only at hx hy hz
    exact inV_mk (by omega) (by omega) (by omega)
  · have h1 := nxt_bd (l := l) (j := p + 1 + 3 * i) (m := 7) (by omega)
    have h2 := nxt_bd (l := l) (j := p + 1 + 3 * i + 1) (m := 5) (by omega)
    have h3 := nxt_bd (l := l) (j := p + 1 + 3 * i + 2) (m := 5) (by omega)
    exact inV_mk (by omega) (by omega) (by omega)
theorem shOf_ok {l : List Int} {q i n : Nat} (hi : i < n) {x : Shape} (h : x ∈ shOf l q i) : shapeErr n x = 0 := by
  unfold shOf at h
  split at h
  · simp only [List.mem_singleton] at h
    subst h
    have h1 := nxt_bd (l := l) (j := q + 1) (m := 3) (by omega)
    have h2 := nxt_bd (l := l) (j := q + 2) (m := 4) (by omega)
    have h3 := mkPts_len l ⟨nxt l (q + 2) 4 * 32768, 0, 0⟩ (q + 3)
    refine shapeErr_zero ?_ ⟨?_, ?_⟩ ⟨h3.1, Nat.le_trans h3.2 (by decide)⟩ (mkPts_in l _ _ ⟨?_, ?_⟩ ⟨?_, ?_⟩ ⟨?_, ?_⟩)
    · simp [linkOk]; omega
    all_goals (simp only; omega)
  · simp at h
theorem shW_ok (l : List Int) (q n : Nat) : shapeErr n (shW l q) = 0 := by
  have h0 := nxt_bd (l := l) (j := q) (m := 19) (by omega)
  have h1 := nxt_bd (l := l) (j := q + 1) (m := 19) (by omega)
  have h2 := nxt_bd (l := l) (j := q + 2) (m := 5) (by omega)
  have h3 := nxt_bd (l := l) (j := q + 3) (m := 4) (by omega)
  have h4 := mkPts_len l ⟨(nxt l q 19 - 9) * 32768, (nxt l (q + 1) 19 - 9) * 32768, (nxt l (q + 2) 5 - 2) * 32768⟩ (q + 4)
  refine shapeErr_zero ?_ ⟨?_, ?_⟩ ⟨h4.1, Nat.le_trans h4.2 (by decide)⟩ (mkPts_in l _ _ ⟨?_, ?_⟩ ⟨?_, ?_⟩ ⟨?_, ?_⟩)
  · exact linkOk_mk (k := -1) (by omega) (by omega)
  all_goals (simp only [shW]; omega)
theorem scene_valid {s : Scene} (h1 : checkRobot s.robot = 0) (h2 : s.shapes.length ≤ 24) (h3 : ∀ x ∈ s.shapes, shapeErr s.robot.joints.length x = 0) (h4 : s.skips.length ≤ 64) (h5 : (s.skips.all fun k => linkOk s.robot.joints.length k.a && linkOk s.robot.joints.length k.b) = true) : checkScene s = 0 := by
  unfold checkScene
  rw [if_neg (by rw [h1]; simp), if_neg (by omega), if_neg (by rw [shapesErr_zero h3]; simp), if_neg (by omega), if_neg (by rw [h5]; simp)]
theorem mkScene_len (l : List Int) : (mkScene l).shapes.length ≤ 6 ∧ (mkScene l).skips.length ≤ 1 ∧ (mkScene l).robot.masses.length ≤ 2 := by
  have hn := joints_len l 0
  have h1 := shLinks_len l (mkRobotAt l 0) (mkRobot l 0).joints.length
  have h2 := nxt_bd (l := l) (j := scQ1 l) (m := 3) (by omega)
  have h3 := nxt_bd (l := l) (j := qM l 0) (m := 3) (by omega)
  refine ⟨?_, ?_, ?_⟩
  · simp only [mkScene, List.length_append, shWs, List.length_map, List.length_range, scN]; omega
  · simp only [mkScene, mkSkips]; split <;> simp
  · simp [mkScene, mkRobot, mkMasses, nM]; omega
theorem mkScene_ok (l : List Int) : checkScene (mkScene l) = 0 := by
  have hn := joints_len l 0
  obtain ⟨k1, k2, _⟩ := mkScene_len l
  refine scene_valid (mkRobot_ok l 0) (by omega) (fun x hx => ?_) (by omega) ?_
  · simp only [mkScene, List.mem_append, shLinks, List.mem_flatMap, List.mem_range, shWs, List.mem_map] at hx
    rcases hx with ⟨i, hi, hx⟩ | ⟨i, _, rfl⟩
    · exact shOf_ok hi hx
    · exact shW_ok l _ _
  · rw [List.all_eq_true]
    intro k hk
    simp only [mkScene, mkSkips] at hk
    split at hk
    · simp only [List.mem_singleton] at hk
      subst hk
      have := nxt_bd (l := l) (j := scQ2 l + 1) (m := ((mkRobot l 0).joints.length : Int)) (by omega)
      rw [Bool.and_eq_true]
      exact ⟨linkOk_mk (k := -1) (by omega) (by omega), linkOk_mk (k := nxt l (scQ2 l + 1) ((mkRobot l 0).joints.length : Int)) (by omega) this.2⟩
    · simp at hk
theorem mkScene_small (l : List Int) : small (mkScene l) := by
  have hn := joints_len l 0
  obtain ⟨k1, k2, k3⟩ := mkScene_len l
  refine ⟨by show (mkRobot l 0).joints.length ≤ _; omega, by omega, by omega, by omega, fun x hx => ?_⟩
  simp only [mkScene, List.mem_append, shLinks, List.mem_flatMap, List.mem_range, shWs, List.mem_map] at hx
  rcases hx with ⟨i, hi, hx⟩ | ⟨i, _, rfl⟩
  · unfold shOf at hx
    split at hx
    · simp only [List.mem_singleton] at hx
      subst hx
      have := mkPts_len l ⟨nxt l (shPos l (mkRobotAt l 0) i + 2) 4 * 32768, 0, 0⟩ (shPos l (mkRobotAt l 0) i + 3)
      simp only; omega
    · simp at hx
  · unfold shW
    simp only
    generalize wPos l (scQ1 l + 1) i = q
    have := mkPts_len l ⟨(nxt l q 19 - 9) * 32768, (nxt l (q + 1) 19 - 9) * 32768, (nxt l (q + 2) 5 - 2) * 32768⟩ (q + 4)
    omega
end Go.Proofs.Ytopcjmipldkijaa

/- mk.Slider, mk.Track. -/
namespace Go.Proofs.Ytopcjmipldkijaa
open Eng
set_option maxRecDepth 10000
attribute [local irreducible] FnOk loopW idxF retX arrF

def sliderJ (hi : Int) (i : Nat) : Joint := ⟨letter i, 4 + (i % 2 : Nat), (i : Int) - 1, ⟨0, 0, 0⟩, 0, hi, 1, 65536, 65536, 65536⟩
def slider (n : Nat) (hi : Int) : Robot := ⟨(List.range n).map (sliderJ hi), []⟩
theorem mk_Slider (n : Nat) (hi : Int) (hn : n ≤ 10) : FnOk Try.prog F.mk_Slider [I n, I hi] [] 0 (Ro (slider n hi)) [] 0 := by
  refine fnOk tab mix G.mk_Slider rfl rfl (by kernel_rfl) rfl rfl ?_
  (conv => whnf)
  refine loop_intro (fun k : Nat => ⟨[(0, I n), (1, I hi), (4, .one (.vptr 0 0)), (5, .one (.vptr 1 0)), (6, I k)], [(0, .vars Y.Robot [.nil 12, .nil 5]), (1, .vars Y.Robot [.row 2, .nil 5]), (2, .rows Y.Joint 12 (((List.range k).map (sliderJ hi)).map encJ))], 3⟩) (fun k => k ≤ n) (fun k => n - k) [.ownC 1 0 Y.Joint 12] 0 [] (Nat.zero_le _) ⟨⟨rfl, rfl, rfl, rfl, rfl, trivial⟩, ⟨rfl, rfl, rfl, trivial⟩⟩ ?_
  rintro k hk
  have hkk : IntKind.i64.wrap ((k : Int) + 1) = ((k + 1 : Nat) : Int) := by rw [w64] <;> omega
  have e1 : IntKind.i64.wrap (4 + (k : Int).tmod 2) = 4 + ((k % 2 : Nat) : Int) := by
    rw [Int.tmod_eq_emod_of_nonneg (by omega), w64] <;> omega
  have e2 : IntKind.i64.wrap ((k : Int) - 1) = (k : Int) - 1 := by rw [w64] <;> omega
  (conv => whnf)
  refine ask_m (fun h => ?_) (fun h => ?_)
  · have hlt : k < n := by have := of_decide_eq_true h; omega
    (conv => whnf)
    refine call_i (mk_letter k (by omega)) ?_
    (conv => whnf)
    refine ⟨(by decide : (2 : Int) ≠ 0), ?_⟩
    (conv => whnf)
    refine ⟨⟨by simp; omega, by simp; omega⟩, ?_⟩
    (conv => whnf)
    refine ⟨k + 1, [(2, 4)], hlt, by omega, ⟨⟨rfl, rfl, rfl, rfl, eqI hkk, trivial⟩, ⟨rfl, rfl, ?_, trivial⟩⟩⟩
    rw [e1, e2, range_enc]; rfl
  · have hk : k = n := by have := of_decide_eq_false h; omega
    subst hk
    (conv => whnf)
    (conv => whnf)
    refine retO [.ownC 0 1 Y.Mass 5, .frz 2, .frz 3] ?_
    (conv => whnf)
    exact ⟨[], ⟨rfl, trivial⟩, trivial⟩
def tkP (l : List Int) (q : Nat) : List Vec := if nxt l (q + 2) 3 = 0 then [⟨nxt l q 65, -9, 0⟩, ⟨nxt l q 65, 80, 0⟩] else [⟨nxt l q 65, nxt l (q + 1) 65, 0⟩]
def tkS (l : List Int) (q : Nat) : Shape := ⟨-1, 2 + nxt l (q + 3) 9, tkP l q⟩
def tkN (l : List Int) : Nat := 1 + (nxt l 0 2).toNat
def tkC (l : List Int) : Nat := (nxt l 2 4).toNat
def tkShapes (l : List Int) (k : Nat) : List Shape := ⟨(tkN l : Int) - 1, 1 + nxt l 1 4, [⟨0, 0, 0⟩]⟩ :: (List.range k).map fun i => tkS l (3 + 4 * i)
def mkTrack (l : List Int) : Scene := ⟨slider (tkN l) 64, tkShapes l (tkC l), []⟩
theorem tkShapes_succ (l : List Int) (k : Nat) : (tkShapes l (k + 1)).map encSh = (tkShapes l k).map encSh ++ [encSh (tkS l (3 + 4 * k))] := by
  simp [tkShapes, List.range_succ]
/- made scenes are valid -/
theorem slider_at {n k : Nat} {hi : Int} {j : Joint} (h : (slider n hi).joints[k]? = some j) : k < n ∧ j = sliderJ hi k := by
  rw [slider, List.getElem?_map] at h
  rcases Nat.lt_or_ge k n with hk | hk
  · rw [List.getElem?_range hk] at h
    exact ⟨hk, by simpa using h.symm⟩
  · rw [List.getElem?_eq_none (by simpa using hk)] at h; cases h
theorem slider_ok {n : Nat} {hi : Int} (h1 : 1 ≤ n) (h2 : n ≤ 10) (h3 : 0 ≤ hi) (h4 : hi ≤ 4194304) : checkRobot (slider n hi) = 0 := by
  have hl : (slider n hi).joints.length = n := by simp [slider]
  refine robot_valid (by omega) (by omega) (jointsErr_zero fun k j hj => ?_) (by simp [slider]) (by simp [slider])
  rw [Nat.zero_add]
  obtain ⟨hk, rfl⟩ := slider_at hj
  have hf := find_at (k := 0) hj fun i x hi' hx => by
    obtain ⟨hi2, rfl⟩ := slider_at hx
    intro e
    have := letter_ne i (by omega) k (by omega) e
    omega
  rw [Nat.zero_add] at hf
  refine jointErr_zero (letter_name k (by omega)) hf ?_
  · have hr : reach (4 + ((k % 2 : Nat) : Int)) = 4194304 := by
      rcases Nat.mod_two_eq_zero_or_one k with h | h <;> rw [h] <;> rfl
    refine ⟨⟨by simp only [sliderJ]; omega, by simp only [sliderJ]; omega⟩, ⟨by simp only [sliderJ]; omega, by simp only [sliderJ]; omega⟩, by simp only [sliderJ]; decide, ⟨by simp only [sliderJ]; omega, by simp only [sliderJ]; rw [hr]; omega, by simp only [sliderJ]; rw [hr]; omega⟩, by simp only [sliderJ]; decide⟩
theorem mkTrack_ok (l : List Int) : checkScene (mkTrack l) = 0 := by
  have n0 := nxt_bd (l := l) (j := 0) (m := 2) (by omega)
  have n1 := nxt_bd (l := l) (j := 1) (m := 4) (by omega)
  have n2 := nxt_bd (l := l) (j := 2) (m := 4) (by omega)
  have hn2 : tkN l ≤ 2 ∧ 1 ≤ tkN l := by unfold tkN; omega
  have hc3 : tkC l ≤ 3 := by unfold tkC; omega
  have hl : (mkTrack l).robot.joints.length = tkN l := by simp [mkTrack, slider]
  refine scene_valid (slider_ok hn2.2 (by omega) (by decide) (by decide)) (by simp [mkTrack, tkShapes]; omega) (fun x hx => ?_) (by simp [mkTrack]) (by simp [mkTrack])
  rw [hl]
  rcases List.mem_cons.1 hx with rfl | hx
  · exact shapeErr_zero (linkOk_mk (by simp only; omega) (by simp only; omega)) ⟨by simp only; omega, by simp only; omega⟩ ⟨by simp, by simp⟩ (by simp only [List.all_cons, List.all_nil]; decide)
  · obtain ⟨i, _, rfl⟩ := List.mem_map.1 hx
    have m0 := nxt_bd (l := l) (j := 3 + 4 * i) (m := 65) (by omega)
    have m1 := nxt_bd (l := l) (j := 3 + 4 * i + 1) (m := 65) (by omega)
    have m3 := nxt_bd (l := l) (j := 3 + 4 * i + 3) (m := 9) (by omega)
    refine shapeErr_zero (linkOk_mk (by simp only [tkS]; omega) (by simp only [tkS]; omega)) ⟨by simp only [tkS]; omega, by simp only [tkS]; omega⟩ ?_ ?_
    · simp only [tkS, tkP]; split <;> simp
    · simp only [tkS, tkP]
      split
      · simp only [List.all_cons, List.all_nil, Bool.and_true, Bool.and_eq_true]
        exact ⟨inV_mk ⟨by omega, by omega⟩ ⟨by omega, by omega⟩ ⟨by omega, by omega⟩, inV_mk ⟨by omega, by omega⟩ ⟨by omega, by omega⟩ ⟨by omega, by omega⟩⟩
      · simp only [List.all_cons, List.all_nil, Bool.and_true]
        exact inV_mk ⟨by omega, by omega⟩ ⟨by omega, by omega⟩ ⟨by omega, by omega⟩
end Go.Proofs.Ytopcjmipldkijaa

/- mk.Workspace. -/
namespace Go.Proofs.Ytopcjmipldkijaa
open Eng
set_option maxRecDepth 10000
attribute [local irreducible] FnOk loopW idxF retX arrF findF

def wsX (l : List Int) : Bool := decide (nxt l 0 2 = 1)
def wsP1 (l : List Int) : Nat := if wsX l then 5 else 1
def wsShapes (l : List Int) : List Shape := ⟨1, 1, [⟨0, 0, 20⟩]⟩ :: if wsX l then [⟨-1, 1 + nxt l 1 5, [⟨nxt l 2 65, nxt l 3 65, nxt l 4 20⟩]⟩] else []
def wsN1 (l : List Int) : Nat := 2 + (nxt l (wsP1 l) 3).toNat
def wsPl (l : List Int) (k : Nat) : Vec := ⟨16 * ((wsN1 l : Int) - k), 8 * nxt l (wsP1 l + 1 + k) 3, 0⟩
def wsP2 (l : List Int) : Nat := wsP1 l + 1 + wsN1 l
def wsN2 (l : List Int) : Nat := 1 + (nxt l (wsP2 l) 2).toNat
def wsHa (l : List Int) (k : Nat) : THand := ⟨1, ⟨0, 0, 2 * ((wsN2 l : Int) - k - 1)⟩⟩
def wsN3 (l : List Int) : Nat := 1 + (nxt l (wsP2 l + 2) 2).toNat
def wsOb (l : List Int) (k : Nat) : TObj := ⟨letter (wsN3 l - k), [⟨0, 1 + nxt l (wsP2 l + 3 + 2 * k) 2, [⟨0, 0, nxt l (wsP2 l + 3 + 2 * k + 1) 3⟩]⟩]⟩
def wsP3 (l : List Int) : Nat := wsP2 l + 3 + 2 * wsN3 l
def grAdd (l : List Int) (h : Nat) (s : Nat × List TGrip) (p : Nat) : Nat × List TGrip :=
  if nxt l s.1 8 < 7 then (s.1 + 2, s.2 ++ [⟨h, p, [min 64 ((wsPl l p).x + (nxt l (s.1 + 1) 5 - 2)), (wsPl l p).y]⟩]) else (s.1 + 1, s.2)
def grRow (l : List Int) (h n : Nat) (s : Nat × List TGrip) : Nat × List TGrip := (List.range n).foldl (grAdd l h) s
def grAll (l : List Int) (n : Nat) : Nat × List TGrip := (List.range n).foldl (fun s h => grRow l h (wsN1 l) s) (wsP3 l, [])
def mkWork (l : List Int) : TWork := ⟨⟨slider 2 64, wsShapes l, []⟩, (List.range (wsN3 l)).map (wsOb l), (List.range (wsN1 l)).map (wsPl l), (List.range (wsN2 l)).map (wsHa l), (grAll l (wsN2 l)).2, 4 + nxt l (wsP2 l + 1) 4⟩
theorem grRow_succ (l : List Int) (h n : Nat) (s : Nat × List TGrip) : grRow l h (n + 1) s = grAdd l h (grRow l h n s) n := by rw [grRow, List.range_succ, List.foldl_append]; rfl
theorem grAll_succ (l : List Int) (n : Nat) : grAll l (n + 1) = grRow l n (wsN1 l) (grAll l n) := by rw [grAll, List.range_succ, List.foldl_append]; rfl
theorem grRow_len (l : List Int) (h : Nat) : ∀ (n : Nat) (s : Nat × List TGrip), (grRow l h n s).2.length ≤ s.2.length + n
  | 0, s => Nat.le_refl _
  | n + 1, s => by
    have ih := grRow_len l h n s
    rw [grRow_succ, grAdd]
    split
    · simp only [List.length_append, List.length_cons, List.length_nil]; omega
    · simp only; omega
theorem wsN1_le (l : List Int) : wsN1 l ≤ 4 := by have := nxt_bd (l := l) (j := wsP1 l) (m := 3) (by omega); unfold wsN1; omega
theorem grAll_len (l : List Int) : ∀ n, (grAll l n).2.length ≤ 4 * n
  | 0 => Nat.le_refl _
  | n + 1 => by
    have ih := grAll_len l n
    have := grRow_len l n (wsN1 l) (grAll l n)
    have := wsN1_le l
    rw [grAll_succ]
    omega
set_option maxHeartbeats 4000000 in
theorem mk_Workspace (l : List Int) (hl : l.length ≤ 4611686018427387904) : FnOk Try.prog F.mk_Workspace [Li l] [] 0 (Wk (mkWork l)) [] 0 := by
  have hn1 : 2 ≤ wsN1 l ∧ wsN1 l ≤ 4 := by have := nxt_bd (l := l) (j := wsP1 l) (m := 3) (by omega); unfold wsN1; omega
  have hn2 : 1 ≤ wsN2 l ∧ wsN2 l ≤ 2 := by have := nxt_bd (l := l) (j := wsP2 l) (m := 2) (by omega); unfold wsN2; omega
  have hn3 : 1 ≤ wsN3 l ∧ wsN3 l ≤ 2 := by have := nxt_bd (l := l) (j := wsP2 l + 2) (m := 2) (by omega); unfold wsN3; omega
  have en1 : IntKind.i64.wrap (2 + nxt l (wsP1 l) 3) = (wsN1 l : Nat) := by have := nxt_bd (l := l) (j := wsP1 l) (m := 3) (by omega); rw [w64 (by omega) (by omega)]; unfold wsN1; omega
  have en2 : IntKind.i64.wrap (1 + nxt l (wsP2 l) 2) = (wsN2 l : Nat) := by have := nxt_bd (l := l) (j := wsP2 l) (m := 2) (by omega); rw [w64 (by omega) (by omega)]; unfold wsN2; omega
  have en3 : IntKind.i64.wrap (1 + nxt l (wsP2 l + 2) 2) = (wsN3 l : Nat) := by have := nxt_bd (l := l) (j := wsP2 l + 2) (m := 2) (by omega); rw [w64 (by omega) (by omega)]; unfold wsN3; omega
  refine fnOk tab mix G.mk_Workspace rfl rfl (by kernel_rfl) rfl rfl ?_
  (conv => whnf)
  refine call_i (mk_From l) ?_
  (conv => whnf)
  refine call_i (mk_Slider 2 64 (by omega)) ?_
  (conv => whnf)
  refine ⟨⟨by simp, by simp⟩, ?_⟩
  (conv => whnf)
  refine call_i (mk_Next l 0 2 (by omega) (by omega) hl) ?_
  (conv => whnf)
  refine ask_m (fun hx => ?_) (fun hx => ?_)
  (conv => whnf)
  refine call_i (mk_Next l 1 5 (by omega) (by omega) hl) ?_
  (conv => whnf)
  refine call_i (mk_Next l 2 65 (by omega) (by omega) hl) ?_
  (conv => whnf)
  refine call_i (mk_Next l 3 65 (by omega) (by omega) hl) ?_
  (conv => whnf)
  refine call_i (mk_Next l 4 20 (by omega) (by omega) hl) ?_
  (conv => whnf)
  refine ⟨⟨by simp, by simp⟩, ?_⟩
  (conv => whnf)
  have hp : wsX l = true := by simpa [wsX] using hx
  have ep : wsP1 l = 5 := by rw [wsP1, if_pos hp]
  have e1 : IntKind.i64.wrap (1 + nxt l 1 5) = 1 + nxt l 1 5 := by have := nxt_bd (l := l) (j := 1) (m := 5) (by omega); rw [w64] <;> omega
  refine call_i (mk_Next l 5 3 (by omega) (by omega) hl) ?_
  (conv => whnf)
  have en := en1
  rw [ep] at en
  rw [en]
  refine loop_intro (fun k : Nat => ⟨[(2, .one (.vptr 0 0)), (3, .one (.vptr 1 0)), (4, .one (.vptr 2 0)), (5, I ((wsN1 l : Int) - k))], [(0, .vars Y.Workspace [.nil 12, .nil 5, .nil 3, .nil 2, .nil 2, .nil 3, .nil 4, .nil 3, .dv (.int .i64 0)]), (1, SrcJ l (wsP1 l + 1 + k)), (2, .vars Y.Workspace [.dv (dJs (slider 2 64).joints), .dv (dMs (slider 2 64).masses), .row 3, .nil 2, .nil 2, .row 4, .nil 4, .nil 3, .dv (.int .i64 0)]), (3, .rows Y.Shape 3 ((wsShapes l).map encSh)), (4, .rows Y.Vec 3 (((List.range k).map (wsPl l)).map encV))], 5⟩) (fun k => k ≤ wsN1 l) (fun k => wsN1 l - k) [.ownC 2 5 Y.Vec 3] 0 [(3, 8), (4, 9)] (Nat.zero_le _) ⟨⟨rfl, rfl, rfl, eqI (by simp), trivial⟩, ⟨rfl, by rw [ep]; rfl, rfl, rows_eq (by rw [wsShapes, hp]; simp only [e1]; rfl), rfl, trivial⟩⟩ ?_
  rotate_left 1
  (conv => whnf)
  have hp : wsX l = false := by simpa [wsX] using hx
  have ep : wsP1 l = 1 := by rw [wsP1, if_neg (by rw [hp]; decide)]
  refine call_i (mk_Next l 1 3 (by omega) (by omega) hl) ?_
  (conv => whnf)
  have en := en1
  rw [ep] at en
  rw [en]
  refine loop_intro (fun k : Nat => ⟨[(2, .one (.vptr 0 0)), (3, .one (.vptr 1 0)), (4, .one (.vptr 2 0)), (5, I ((wsN1 l : Int) - k))], [(0, .vars Y.Workspace [.nil 12, .nil 5, .nil 3, .nil 2, .nil 2, .nil 3, .nil 4, .nil 3, .dv (.int .i64 0)]), (1, SrcJ l (wsP1 l + 1 + k)), (2, .vars Y.Workspace [.dv (dJs (slider 2 64).joints), .dv (dMs (slider 2 64).masses), .row 3, .nil 2, .nil 2, .row 4, .nil 4, .nil 3, .dv (.int .i64 0)]), (3, .rows Y.Shape 3 ((wsShapes l).map encSh)), (4, .rows Y.Vec 3 (((List.range k).map (wsPl l)).map encV))], 5⟩) (fun k => k ≤ wsN1 l) (fun k => wsN1 l - k) [.ownC 2 5 Y.Vec 3] 0 [(3, 5), (4, 6)] (Nat.zero_le _) ⟨⟨rfl, rfl, rfl, eqI (by simp), trivial⟩, ⟨rfl, by rw [ep]; rfl, rfl, rows_eq (by rw [wsShapes, hp]; rfl), rfl, trivial⟩⟩ ?_
  all_goals
    clear ep hp en hx
    rintro k hk
    have hkk : IntKind.i64.wrap ((wsN1 l : Int) - k - 1) = (wsN1 l : Int) - ((k + 1 : Nat) : Int) := by rw [w64] <;> omega
    (conv => whnf)
    refine ask_m (fun h => ?_) (fun h => ?_)
    · have hlt : k < wsN1 l := by have := of_decide_eq_true h; omega
      have m0 := nxt_bd (l := l) (j := wsP1 l + 1 + k) (m := 3) (by omega)
      (conv => whnf)
      refine call_i (mk_Next l (wsP1 l + 1 + k) 3 (by omega) (by omega) hl) ?_
      (conv => whnf)
      refine ⟨⟨by simp; omega, by simp; omega⟩, ?_⟩
      (conv => whnf)
      have e2 : IntKind.i64.wrap (8 * nxt l (wsP1 l + 1 + k) 3) = 8 * nxt l (wsP1 l + 1 + k) 3 := by rw [w64] <;> omega
      have e3 : IntKind.i64.wrap (16 * ((wsN1 l : Int) - k)) = 16 * ((wsN1 l : Int) - k) := by rw [w64] <;> omega
      exact ⟨k + 1, [(4, 6)], hlt, by omega, ⟨⟨rfl, rfl, rfl, eqI hkk, trivial⟩, ⟨rfl, rfl, rfl, rfl, rows_eq (by rw [range_enc, e2, e3]; rfl), trivial⟩⟩⟩
    have hk' : k = wsN1 l := by have := of_decide_eq_false h; omega
    subst hk'
    (conv => whnf)
    refine call_i (mk_Next l (wsP2 l) 2 (by omega) (by omega) hl) ?_
    (conv => whnf)
    rw [en2]
    refine loop_intro (fun k : Nat => ⟨[(2, .one (.vptr 0 0)), (3, .one (.vptr 1 0)), (4, .one (.vptr 2 0)), (6, I ((wsN2 l : Int) - k))], [(0, .vars Y.Workspace [.nil 12, .nil 5, .nil 3, .nil 2, .nil 2, .nil 3, .nil 4, .nil 3, .dv (.int .i64 0)]), (1, SrcJ l (wsP2 l + 1)), (2, .vars Y.Workspace [.dv (dJs (slider 2 64).joints), .dv (dMs (slider 2 64).masses), .row 3, .nil 2, .nil 2, .row 4, .row 5, .nil 3, .dv (.int .i64 0)]), (3, .rows Y.Shape 3 ((wsShapes l).map encSh)), (4, .rows Y.Vec 3 (((List.range (wsN1 l)).map (wsPl l)).map encV)), (5, .rows Y.Hand 4 (((List.range k).map (wsHa l)).map encH))], 6⟩) (fun k => k ≤ wsN2 l) (fun k => wsN2 l - k) [.ownC 2 6 Y.Hand 4] 0 [] (Nat.zero_le _) ⟨⟨rfl, rfl, rfl, eqI (by simp), trivial⟩, ⟨rfl, rfl, rfl, rfl, rfl, rfl, trivial⟩⟩ ?_
    rintro k hk
    have hkk : IntKind.i64.wrap ((wsN2 l : Int) - k - 1) = (wsN2 l : Int) - ((k + 1 : Nat) : Int) := by rw [w64] <;> omega
    (conv => whnf)
    refine ask_m (fun h => ?_) (fun h => ?_)
    · have hlt : k < wsN2 l := by have := of_decide_eq_true h; omega
      (conv => whnf)
      refine ⟨⟨by simp; omega, by simp; omega⟩, ?_⟩
      (conv => whnf)
      have e2 : IntKind.i64.wrap ((wsN2 l : Int) - k - 1) = (wsN2 l : Int) - k - 1 := by rw [w64] <;> omega
      have e3 : IntKind.i64.wrap (2 * ((wsN2 l : Int) - k - 1)) = 2 * ((wsN2 l : Int) - k - 1) := by rw [w64] <;> omega
      exact ⟨k + 1, [(5, 7)], hlt, by omega, ⟨⟨rfl, rfl, rfl, eqI hkk, trivial⟩, ⟨rfl, rfl, rfl, rfl, rfl, rows_eq (by rw [range_enc, e2, e3]; rfl), trivial⟩⟩⟩
    have hk' : k = wsN2 l := by have := of_decide_eq_false h; omega
    subst hk'
    (conv => whnf)
    refine call_i (mk_Next l (wsP2 l + 1) 4 (by omega) (by omega) hl) ?_
    (conv => whnf)
    have m1 := nxt_bd (l := l) (j := wsP2 l + 1) (m := 4) (by omega)
    have e4 : IntKind.i64.wrap (nxt l (wsP2 l + 1) 4 + 4) = 4 + nxt l (wsP2 l + 1) 4 := by rw [w64] <;> omega
    refine call_i (mk_Next l (wsP2 l + 2) 2 (by omega) (by omega) hl) ?_
    (conv => whnf)
    rw [en3, e4]
    refine loop_intro (fun k : Nat => ⟨[(2, .one (.vptr 0 0)), (3, .one (.vptr 1 0)), (4, .one (.vptr 2 0)), (7, I ((wsN3 l - k : Nat) : Int))], [(0, .vars Y.Workspace [.nil 12, .nil 5, .nil 3, .nil 2, .nil 2, .nil 3, .nil 4, .nil 3, .dv (.int .i64 0)]), (1, SrcJ l (wsP2 l + 3 + 2 * k)), (2, .vars Y.Workspace [.dv (dJs (slider 2 64).joints), .dv (dMs (slider 2 64).masses), .row 3, .nil 2, .row 6, .row 4, .row 5, .nil 3, .dv (.int .i64 (4 + nxt l (wsP2 l + 1) 4))]), (3, .rows Y.Shape 3 ((wsShapes l).map encSh)), (4, .rows Y.Vec 3 (((List.range (wsN1 l)).map (wsPl l)).map encV)), (5, .rows Y.Hand 4 (((List.range (wsN2 l)).map (wsHa l)).map encH)), (6, .rows Y.Object 2 (((List.range k).map (wsOb l)).map encO))], 7⟩) (fun k => k ≤ wsN3 l) (fun k => wsN3 l - k) [.ownC 2 4 Y.Object 2] 0 [] (Nat.zero_le _) ⟨⟨rfl, rfl, rfl, eqI (by simp), trivial⟩, ⟨rfl, rfl, rfl, rfl, rfl, rfl, rfl, trivial⟩⟩ ?_
    rintro k hk
    (conv => whnf)
    refine ask_m (fun h => ?_) (fun h => ?_)
    · have hlt : k < wsN3 l := by have := of_decide_eq_true h; omega
      have hkk : IntKind.i64.wrap (((wsN3 l - k : Nat) : Int) - 1) = ((wsN3 l - (k + 1) : Nat) : Int) := by rw [w64] <;> omega
      have m2 := nxt_bd (l := l) (j := wsP2 l + 3 + 2 * k) (m := 2) (by omega)
      (conv => whnf)
      refine call_i (mk_letter (wsN3 l - k) (by omega)) ?_
      (conv => whnf)
      refine call_i (mk_Next l (wsP2 l + 3 + 2 * k) 2 (by omega) (by omega) hl) ?_
      (conv => whnf)
      refine call_i (mk_Next l (wsP2 l + 3 + 2 * k + 1) 3 (by omega) (by omega) hl) ?_
      (conv => whnf)
      refine ⟨⟨by simp; omega, by simp; omega⟩, ?_⟩
      (conv => whnf)
      have e2 : IntKind.i64.wrap (1 + nxt l (wsP2 l + 3 + 2 * k) 2) = 1 + nxt l (wsP2 l + 3 + 2 * k) 2 := by rw [w64] <;> omega
      exact ⟨k + 1, [(6, 10)], hlt, by omega, ⟨⟨rfl, rfl, rfl, eqI hkk, trivial⟩, ⟨rfl, rfl, rfl, rfl, rfl, rfl, rows_eq (by rw [range_enc, e2]; rfl), trivial⟩⟩⟩
    have hk' : k = wsN3 l := by have := of_decide_eq_false h; omega
    subst hk'
    (conv => whnf)
    refine loop_intro (fun h : Nat => ⟨[(2, .one (.vptr 0 0)), (3, .one (.vptr 1 0)), (4, .one (.vptr 2 0)), (8, I h)], [(0, .vars Y.Workspace [.nil 12, .nil 5, .nil 3, .nil 2, .nil 2, .nil 3, .nil 4, .nil 3, .dv (.int .i64 0)]), (1, SrcJ l (grAll l h).1), (2, .vars Y.Workspace [.dv (dJs (slider 2 64).joints), .dv (dMs (slider 2 64).masses), .row 3, .nil 2, .row 6, .row 4, .row 5, .row 7, .dv (.int .i64 (4 + nxt l (wsP2 l + 1) 4))]), (3, .rows Y.Shape 3 ((wsShapes l).map encSh)), (4, .rows Y.Vec 3 (((List.range (wsN1 l)).map (wsPl l)).map encV)), (5, .rows Y.Hand 4 (((List.range (wsN2 l)).map (wsHa l)).map encH)), (6, .rows Y.Object 2 (((List.range (wsN3 l)).map (wsOb l)).map encO)), (7, .rows Y.Grip 3 ((grAll l h).2.map encG))], 8⟩) (fun h => h ≤ wsN2 l) (fun h => wsN2 l - h) [.ownC 2 7 Y.Grip 3] 0 [] (Nat.zero_le _) ⟨⟨rfl, rfl, rfl, rfl, trivial⟩, ⟨rfl, rfl, rfl, rfl, rfl, rfl, rfl, rfl, trivial⟩⟩ ?_
    rintro h hh
    have hhh : IntKind.i64.wrap ((h : Int) + 1) = ((h + 1 : Nat) : Int) := by rw [w64] <;> omega
    have gl1 := grAll_len l h
    (conv => whnf)
    refine ask_m (fun b1 => ?_) (fun b1 => ?_)
    · have hlt : h < wsN2 l := by have := of_decide_eq_true b1; simp only [List.length_map, List.length_range] at this; omega
      (conv => whnf)
      refine loop_intro (fun p : Nat => ⟨[(2, .one (.vptr 0 0)), (3, .one (.vptr 1 0)), (4, .one (.vptr 2 0)), (8, I h), (9, I p)], [(0, .vars Y.Workspace [.nil 12, .nil 5, .nil 3, .nil 2, .nil 2, .nil 3, .nil 4, .nil 3, .dv (.int .i64 0)]), (1, SrcJ l (grRow l h p (grAll l h)).1), (2, .vars Y.Workspace [.dv (dJs (slider 2 64).joints), .dv (dMs (slider 2 64).masses), .row 3, .nil 2, .row 6, .row 4, .row 5, .row 7, .dv (.int .i64 (4 + nxt l (wsP2 l + 1) 4))]), (3, .rows Y.Shape 3 ((wsShapes l).map encSh)), (4, .rows Y.Vec 3 (((List.range (wsN1 l)).map (wsPl l)).map encV)), (5, .rows Y.Hand 4 (((List.range (wsN2 l)).map (wsHa l)).map encH)), (6, .rows Y.Object 2 (((List.range (wsN3 l)).map (wsOb l)).map encO)), (7, .rows Y.Grip 3 ((grRow l h p (grAll l h)).2.map encG))], 8⟩) (fun p => p ≤ wsN1 l) (fun p => wsN1 l - p) [] 0 [] (Nat.zero_le _) ⟨⟨rfl, rfl, rfl, rfl, rfl, trivial⟩, ⟨rfl, rfl, rfl, rfl, rfl, rfl, rfl, rfl, trivial⟩⟩ ?_
      rintro p hp
      have hpp : IntKind.i64.wrap ((p : Int) + 1) = ((p + 1 : Nat) : Int) := by rw [w64] <;> omega
      have gl2 := grRow_len l h p (grAll l h)
      have hst := grRow_succ l h p (grAll l h)
      rw [grAdd] at hst
      generalize hS : grRow l h p (grAll l h) = S at *
      (conv => whnf)
      refine ask_m (fun b2 => ?_) (fun b2 => ?_)
      · have hlt2 : p < wsN1 l := by have := of_decide_eq_true b2; simp only [List.length_map, List.length_range] at this; omega
        have hpl : ((List.range (wsN1 l)).map (wsPl l))[p]? = some (wsPl l p) := by rw [List.getElem?_map, List.getElem?_range hlt2]; rfl
        (conv => whnf)
        refine call_i (mk_Next l S.1 8 (by omega) (by omega) hl) ?_
        (conv => whnf)
        refine ask_m (fun b3 => ?_) (fun b3 => ?_)
        · rw [if_pos (of_decide_eq_true b3)] at hst
          (conv => whnf)
          refine ⟨⟨by omega, by simp; omega⟩, ?_⟩
          (conv => whnf)
          refine ⟨⟨by decide, by decide⟩, ?_⟩
          (conv => whnf)
          refine idx_map (x := wsPl l p) (by rw [Int.toNat_natCast]; exact hpl) ?_
          (conv => whnf)
          refine call_i (mk_Signed l (S.1 + 1) 2 5 (by omega) (by omega) (by omega) hl) ?_
          (conv => whnf)
          refine ⟨⟨by omega, by simp; omega⟩, ?_⟩
          (conv => whnf)
          refine ⟨⟨by decide, by decide⟩, ?_⟩
          (conv => whnf)
          refine idx_map (x := wsPl l p) (by rw [Int.toNat_natCast]; exact hpl) ?_
          (conv => whnf)
          refine ⟨⟨by simp; omega, by simp; omega⟩, ?_⟩
          (conv => whnf)
          have m4 := nxt_bd (l := l) (j := S.1 + 1) (m := 5) (by omega)
          have ex : (wsPl l p).x = 16 * ((wsN1 l : Int) - p) := rfl
          have e5 : IntKind.i64.wrap ((wsPl l p).x + (nxt l (S.1 + 1) 5 - 2)) = (wsPl l p).x + (nxt l (S.1 + 1) 5 - 2) := by rw [ex, w64] <;> omega
          exact ⟨p + 1, [(7, 10)], hlt2, by omega, ⟨⟨rfl, rfl, rfl, rfl, eqI hpp, trivial⟩, ⟨rfl, by rw [hst]; rfl, rfl, rfl, rfl, rfl, rfl, rows_eq (by rw [hst, e5, List.map_append]; rfl), trivial⟩⟩⟩
        · rw [if_neg (of_decide_eq_false b3)] at hst
          (conv => whnf)
          exact ⟨p + 1, [], hlt2, by omega, ⟨⟨rfl, rfl, rfl, rfl, eqI hpp, trivial⟩, ⟨rfl, by rw [hst]; rfl, rfl, rfl, rfl, rfl, rfl, rows_eq (by rw [hst]), trivial⟩⟩⟩
      · have hpe : p = wsN1 l := by have := of_decide_eq_false b2; simp only [List.length_map, List.length_range] at this; omega
        subst hpe
        rw [← grAll_succ] at hS
        subst hS
        (conv => whnf)
        exact ⟨h + 1, [], hlt, by omega, ⟨⟨rfl, rfl, rfl, eqI hhh, trivial⟩, ⟨rfl, rfl, rfl, rfl, rfl, rfl, rfl, rfl, trivial⟩⟩⟩
    · have hhe : h = wsN2 l := by have := of_decide_eq_false b1; simp only [List.length_map, List.length_range] at this; omega
      subst hhe
      (conv => whnf)
      (conv => whnf)
      refine retO [.ownC 0 3 Y.Skip 2, .frz 3, .frz 4, .frz 5, .frz 6, .frz 7, .frz 8] ?_
      (conv => whnf)
      exact ⟨[], ⟨rfl, trivial⟩, trivial⟩
end Go.Proofs.Ytopcjmipldkijaa

/- mk.used, mk.Mode. -/
namespace Go.Proofs.Ytopcjmipldkijaa
open Eng
set_option maxRecDepth 10000
attribute [local irreducible] FnOk loopW idxF retX arrF findF

theorem mk_used (l : List Int) (x : Int) (hl : l.length ≤ 4611686018427387904) : FnOk Try.prog F.mk_used [Li l, I x] [] 0 (Bo (decide (x ∈ l))) [] 0 := by
  refine fnOk tab mix G.mk_used rfl rfl (by kernel_rfl) rfl rfl ?_
  (conv => whnf)
  refine loop_intro (fun k : Nat => ⟨[(0, Li l), (1, I x), (5, I k)], [], 0⟩) (fun k => k ≤ l.length ∧ ∀ j, j < k → l[j]? ≠ some x) (fun k => l.length - k) [] 0 [] ⟨Nat.zero_le _, fun j hj => by omega⟩ ⟨⟨rfl, rfl, rfl, trivial⟩, trivial⟩ ?_
  rintro k ⟨hk, hno⟩
  have hkk : IntKind.i64.wrap ((k : Int) + 1) = ((k + 1 : Nat) : Int) := by rw [w64] <;> omega
  (conv => whnf)
  refine ask_m (fun h => ?_) (fun h => ?_)
  · have hlt : k < l.length := by have := of_decide_eq_true h; simp only [List.length_map] at this; omega
    obtain ⟨y, hy⟩ : ∃ j, l[k]? = some j := ⟨_, List.getElem?_eq_getElem hlt⟩
    (conv => whnf)
    refine idx_and (by omega) (by simpa using hy) ?_
    (conv => whnf)
    refine ask_m (fun h1 => ?_) (fun h1 => ?_)
    · have h1 : y = x := by simpa using h1
      (conv => whnf)
      refine ret0 ?_
      exact ret_b (decide_eq_true (h1 ▸ List.mem_of_getElem? hy)).symm rfl
    · have h1 : ¬ y = x := by simpa using h1
      (conv => whnf)
      exact ⟨k + 1, [], ⟨hlt, fun j hj => by
        by_cases e : j = k
        · subst e; rw [hy]; simpa using h1
        · exact hno j (by omega)⟩, by omega, ⟨⟨rfl, rfl, eqI hkk, trivial⟩, trivial⟩⟩
  · have hk' : k = l.length := by have := of_decide_eq_false h; simp only [List.length_map] at this; omega
    subst hk'
    have e : decide (x ∈ l) = false := decide_eq_false fun hm => by
      obtain ⟨j, hj⟩ := List.getElem?_of_mem hm
      exact hno j (List.getElem?_eq_some_iff.1 hj).1 hj
    (conv => whnf)
    refine ret0 ?_
    exact ret_b e.symm rfl
def holeV (N H : Nat) (r : Int) (j : Nat) : Int := (r + j) % N - H
def holeF (N H : Nat) (r : Int) (m : List Int) : Nat → Nat → Int
  | 0, j => holeV N H r j
  | f + 1, j => if holeV N H r j ∈ m then holeF N H r m f (j + 1) else holeV N H r j
def mdTo (l : List Int) (N H : Nat) : Nat → List Int
  | 0 => []
  | k + 1 => mdTo l N H k ++ [holeF N H (nxt l k N) (mdTo l N H k) N 0]
def mkMode (w : TWork) (l : List Int) : List Int := mdTo l (w.places.length + w.hands.length) w.hands.length w.objects.length
theorem mdTo_len (l : List Int) (N H : Nat) : ∀ k, (mdTo l N H k).length = k
  | 0 => rfl
  | k + 1 => by rw [mdTo, List.length_append, mdTo_len l N H k]; rfl
theorem nodup_sub : ∀ (l m : List Int), l.Nodup → (∀ x ∈ l, x ∈ m) → l.length ≤ m.length
  | [], _, _, _ => Nat.zero_le _
  | x :: l, m, hn, h => by
    rw [List.nodup_cons] at hn
    have hx := h x (by simp)
    have ih := nodup_sub l (m.erase x) hn.2 fun y hy => by
      have hne : y ≠ x := fun e => hn.1 (e ▸ hy)
      exact (List.mem_erase_of_ne hne).2 (h y (by simp [hy]))
    have := List.length_erase_of_mem hx
    have : 0 < m.length := List.length_pos_of_mem hx
    simp only [List.length_cons]
    omega
theorem holeV_inj {N H : Nat} {r : Int} {i j : Nat} (hi : i < N) (hj : j < N) (h : holeV N H r i = holeV N H r j) : i = j := by
  unfold holeV at h
  have e : (r + i) % N = (r + j) % N := by omega
  have h1 := Int.mul_ediv_add_emod (r + i) N
  have h2 := Int.mul_ediv_add_emod (r + j) N
  have h3 : ((i : Int) - j) = N * ((r + i) / N - (r + j) / N) := by rw [Int.mul_sub]; omega
  have h4 : (r + i) / (N : Int) - (r + j) / N = 0 := by
    rcases Int.lt_trichotomy ((r + i) / (N : Int) - (r + j) / N) 0 with hlt | heq | hgt
    · have : (N : Int) * ((r + i) / N - (r + j) / N) ≤ N * (-1) := Int.mul_le_mul_of_nonneg_left (by omega) (by omega)
      omega
    · exact heq
    · have : (N : Int) * 1 ≤ N * ((r + i) / N - (r + j) / N) := Int.mul_le_mul_of_nonneg_left (by omega) (by omega)
      omega
  rw [h4, Int.mul_zero] at h3
  omega
/-- not all holes are taken -/
theorem hole_free {N H : Nat} {r : Int} {m : List Int} (hm : m.length < N) (h : ∀ i, i < N → holeV N H r i ∈ m) : False := by
  have hn : ((List.range N).map (holeV N H r)).Nodup := by
    rw [List.Nodup, List.pairwise_map]
    refine List.Pairwise.imp_of_mem (fun {a b} ha hb hab e => ?_) List.nodup_range
    exact hab (holeV_inj (List.mem_range.1 ha) (List.mem_range.1 hb) e)
  have := nodup_sub _ m hn fun x hx => by
    obtain ⟨i, hi, rfl⟩ := List.mem_map.1 hx
    exact h i (List.mem_range.1 hi)
  rw [List.length_map, List.length_range] at this
  omega
theorem hole_not {N H : Nat} {r : Int} {m : List Int} (hm : m.length < N) : ∀ (f j : Nat), f + j = N → (∀ i, i < j → holeV N H r i ∈ m) → holeF N H r m f j ∉ m
  | 0, j, hj, h => (hole_free hm fun i hi => h i (by omega)).elim
  | f + 1, j, hj, h => by
    rw [holeF]
    split
    · rename_i hin
      exact hole_not hm f (j + 1) (by omega) fun i hi => by
        by_cases e : i = j
        · subst e; exact hin
        · exact h i (by omega)
    · assumption
theorem holeV_bd {N H : Nat} (hN : 0 < N) {r : Int} (j : Nat) : -(H : Int) ≤ holeV N H r j ∧ holeV N H r j < N - H := by
  unfold holeV
  have h1 := Int.emod_nonneg (r + j) (show (N : Int) ≠ 0 by omega)
  have h2 := Int.emod_lt_of_pos (r + j) (show (0 : Int) < N by omega)
  omega
theorem hole_bd {N H : Nat} (hN : 0 < N) {r : Int} {m : List Int} : ∀ (f j : Nat), -(H : Int) ≤ holeF N H r m f j ∧ holeF N H r m f j < N - H
  | 0, j => holeV_bd hN j
  | f + 1, j => by
    rw [holeF]
    split
    · exact hole_bd hN f (j + 1)
    · exact holeV_bd hN j
theorem mdTo_ok {l : List Int} {N H : Nat} (hN : 0 < N) : ∀ k, k ≤ N → (∀ x ∈ mdTo l N H k, -(H : Int) ≤ x ∧ x < N - H) ∧ (mdTo l N H k).Nodup
  | 0, _ => ⟨fun x hx => (by cases hx), List.nodup_nil⟩
  | k + 1, hk => by
    obtain ⟨h1, h2⟩ := mdTo_ok hN k (by omega)
    rw [mdTo]
    refine ⟨fun x hx => ?_, ?_⟩
    · rcases List.mem_append.1 hx with hx | hx
      · exact h1 x hx
      · simp only [List.mem_singleton] at hx
        subst hx
        exact hole_bd hN _ _
    · rw [List.nodup_append]
      refine ⟨h2, by simp, fun x hx y hy e => ?_⟩
      simp only [List.mem_singleton] at hy
      subst hy e
      exact hole_not (by rw [mdTo_len]; omega) N 0 rfl (fun i hi => by omega) hx
theorem mkMode_ok {w : TWork} (hw : workErr w = 0) (hN : 0 < w.places.length + w.hands.length) (ho : w.objects.length ≤ w.places.length + w.hands.length) (l : List Int) : ValidF w (mkMode w l) := by
  obtain ⟨h1, h2⟩ := mdTo_ok (l := l) (H := w.hands.length) hN _ ho
  exact ⟨hw, mdTo_len _ _ _ _, fun x hx => by have := h1 x hx; omega, h2⟩
theorem mk_Mode (w : TWork) (l : List Int) (hl : l.length ≤ 4611686018427387904) (h1 : w.places.length ≤ 1000) (h2 : w.hands.length ≤ 1000) (hN : 0 < w.places.length + w.hands.length) (ho : w.objects.length ≤ w.places.length + w.hands.length) : FnOk Try.prog F.mk_Mode [Wk w, Li l] [] 0 (Md (mkMode w l)) [] 0 := by
  refine fnOk tab mix G.mk_Mode rfl rfl (by kernel_rfl) rfl rfl ?_
  (conv => whnf)
  refine call_i (mk_From l) ?_
  (conv => whnf)
  generalize hNN : w.places.length + w.hands.length = N at *
  rw [mkMode, hNN]
  generalize hHH : w.hands.length = H at *
  refine loop_intro (fun k : Nat => ⟨[(2, .one (.vptr 0 0)), (4, .one (.vptr 1 0)), (5, .one (.vptr 2 0)), (6, .one (.vptr 3 0)), (7, I k)], [(0, bWk w), (1, .vars Y.Mode [.nil 1]), (2, SrcJ l k), (3, .vars Y.Mode [.row 4]), (4, .rows Y.int 1 ((mdTo l N H k).map encI))], 5⟩) (fun k => k ≤ w.objects.length) (fun k => w.objects.length - k) [.ownC 3 0 Y.int 1] 0 [] (Nat.zero_le _) ⟨⟨rfl, rfl, rfl, rfl, rfl, trivial⟩, ⟨rfl, rfl, rfl, rfl, rfl, trivial⟩⟩ ?_
  rintro k hk
  have hkk : IntKind.i64.wrap ((k : Int) + 1) = ((k + 1 : Nat) : Int) := by rw [w64] <;> omega
  have hml := mdTo_len l N H k
  (conv => whnf)
  refine ask_m (fun h => ?_) (fun h => ?_)
  · have hlt : k < w.objects.length := by have := of_decide_eq_true h; simp only [List.length_map] at this; omega
    have eN : IntKind.i64.wrap (((w.places.map encV).length : Int) + (w.hands.map encH).length) = (N : Nat) := by simp only [List.length_map]; rw [w64] <;> omega
    have m0 := nxt_bd (l := l) (j := k) (m := (N : Int)) (by omega)
    (conv => whnf)
    rw [eN]
    refine call_i (mk_Next l k N (by omega) (by omega) hl) ?_
    (conv => whnf)
    have eh : IntKind.i64.wrap (nxt l k N - ((w.hands.map encH).length : Int)) = holeV N H (nxt l k N) 0 := by
      rw [holeV, show (nxt l k N + (0 : Nat)) % (N : Int) = nxt l k N by rw [Int.natCast_zero, Int.add_zero]; exact Int.emod_eq_of_lt m0.1 m0.2]
      simp only [List.length_map]; rw [w64] <;> omega
    rw [eh]
    generalize hr : nxt l k N = r at *
    generalize hM : mdTo l N H k = M at *
    have hMk : mdTo l N H (k + 1) = M ++ [holeF N H r M N 0] := by rw [mdTo, hM, hr]
    refine loop_intro (fun j : Nat => ⟨[(2, .one (.vptr 0 0)), (4, .one (.vptr 1 0)), (5, .one (.vptr 2 0)), (6, .one (.vptr 3 0)), (7, I k), (8, I (holeV N H r j))], [(0, bWk w), (1, .vars Y.Mode [.nil 1]), (2, SrcJ l (k + 1)), (3, .vars Y.Mode [.row 4]), (4, .rows Y.int 1 (M.map encI))], 5⟩) (fun j => j ≤ N ∧ holeF N H r M (N - j) j = holeF N H r M N 0 ∧ ∀ i, i < j → holeV N H r i ∈ M) (fun j => N - j) [] 0 [] ⟨Nat.zero_le _, rfl, fun i hi => by omega⟩ ⟨⟨rfl, rfl, rfl, rfl, rfl, rfl, trivial⟩, ⟨rfl, rfl, rfl, rfl, rfl, trivial⟩⟩ ?_
    rintro j ⟨hj, hF, hall⟩
    have hv := holeV_bd (H := H) hN (r := r) j
    (conv => whnf)
    refine call_i (mk_used M (holeV N H r j) (by omega)) ?_
    (conv => whnf)
    refine ⟨⟨trivial, trivial⟩, ?_⟩
    (conv => whnf)
    refine ask_m (fun h3 => ?_) (fun h3 => ?_)
    · have h3 := of_decide_eq_true h3
      have hjN : j < N := by
        rcases Nat.lt_or_ge j N with h | h
        · exact h
        · exact (hole_free (by omega) fun i hi => hall i (by omega)).elim
      obtain ⟨f, hf⟩ : ∃ f, N - j = f + 1 := ⟨N - j - 1, by omega⟩
      rw [hf, holeF, if_pos h3] at hF
      have e1 : IntKind.i64.wrap (holeV N H r j + 1) = holeV N H r j + 1 := by rw [w64] <;> omega
      have e2 : IntKind.i64.wrap (holeV N H r j + 1 + ((w.hands.map encH).length : Int)) = holeV N H r j + 1 + H := by simp only [List.length_map]; rw [hHH, w64] <;> omega
      have e3 : IntKind.i64.wrap ((holeV N H r j + 1 + H).tmod N - ((w.hands.map encH).length : Int)) = holeV N H r (j + 1) := by
        have t1 : (holeV N H r j + 1 + H).tmod N = (holeV N H r j + 1 + H) % N := Int.tmod_eq_emod_of_nonneg (by omega)
        have t2 : (holeV N H r j + 1 + (H : Int)) % N = (r + ((j + 1 : Nat) : Int)) % N := by
          rw [holeV, show (r + (j : Int)) % N - H + 1 + H = (r + j) % N + 1 by omega, Int.emod_add_emod]
          congr 1
          omega
        have t3 := Int.emod_nonneg (r + ((j + 1 : Nat) : Int)) (show (N : Int) ≠ 0 by omega)
        have t4 := Int.emod_lt_of_pos (r + ((j + 1 : Nat) : Int)) (show (0 : Int) < N by omega)
        rw [t1, t2, holeV]
        simp only [List.length_map]; rw [hHH, w64] <;> omega
      (conv => whnf)
      rw [e1, e2, eN]
      refine ⟨(by omega : (N : Int) ≠ 0), ?_⟩
      (conv => whnf)
      exact ⟨j + 1, [], ⟨hjN, by rw [show N - (j + 1) = f by omega]; exact hF, fun i hi => by
        by_cases e : i = j
        · subst e; exact h3
        · exact hall i (by omega)⟩, by omega, ⟨⟨rfl, rfl, rfl, rfl, rfl, eqI e3, trivial⟩, ⟨rfl, rfl, rfl, rfl, rfl, trivial⟩⟩⟩
    · have h3 := of_decide_eq_false h3
      have hres : holeF N H r M N 0 = holeV N H r j := by
        rw [← hF]
        cases hf : N - j with
        | zero => rfl
        | succ f => rw [holeF, if_neg h3]
      (conv => whnf)
      refine ⟨⟨by simp; omega, by simp; omega⟩, ?_⟩
      (conv => whnf)
      exact ⟨k + 1, [(4, 6)], hlt, by omega, ⟨⟨rfl, rfl, rfl, rfl, eqI hkk, trivial⟩, ⟨rfl, rfl, rfl, rfl, rows_eq (by rw [hMk, hres, List.map_append]; rfl), trivial⟩⟩⟩
  · have hk' : k = w.objects.length := by have := of_decide_eq_false h; simp only [List.length_map] at this; omega
    subst hk'
    (conv => whnf)
    (conv => whnf)
    refine retO [.frz 4] ?_
    (conv => whnf)
    exact ⟨[], ⟨rfl, trivial⟩, trivial⟩
end Go.Proofs.Ytopcjmipldkijaa

/- Made workspaces are good ones. -/
namespace Go.Proofs.Ytopcjmipldkijaa
open Eng
set_option maxRecDepth 10000

theorem workErr_zero {w : TWork} (h1 : checkScene w.scene = 0) (h2 : fitB w = true) (h3 : objsB [] w.objects = true) (h4 : w.scene.shapes.length + countOf w.objects ≤ 24) : workErr w = 0 := by
  rw [workErr, if_neg (by simp [h1]), if_neg (by simp [h2]), if_neg (by simp [h3]), if_neg (by omega)]
theorem wsN1_bd (l : List Int) : 2 ≤ wsN1 l ∧ wsN1 l ≤ 4 := by have := nxt_bd (l := l) (j := wsP1 l) (m := 3) (by omega); unfold wsN1; omega
theorem wsN2_bd (l : List Int) : 1 ≤ wsN2 l ∧ wsN2 l ≤ 2 := by have := nxt_bd (l := l) (j := wsP2 l) (m := 2) (by omega); unfold wsN2; omega
theorem wsN3_bd (l : List Int) : 1 ≤ wsN3 l ∧ wsN3 l ≤ 2 := by have := nxt_bd (l := l) (j := wsP2 l + 2) (m := 2) (by omega); unfold wsN3; omega
theorem wsShapes_bd (l : List Int) : 1 ≤ (wsShapes l).length ∧ (wsShapes l).length ≤ 2 := by
  rw [wsShapes]; split <;> simp
theorem wsShapes_in {l : List Int} {x : Shape} (h : x ∈ wsShapes l) : -1 ≤ x.link ∧ x.link ≤ 1 ∧ 1 ≤ x.radius ∧ x.radius ≤ 5 ∧ ∃ p : Vec, x.points = [p] ∧ inV p 4194304 = true := by
  rw [wsShapes] at h
  rcases List.mem_cons.1 h with rfl | h
  · exact ⟨by decide, by decide, by decide, by simp only; omega, _, rfl, by decide⟩
  · split at h
    · simp only [List.mem_singleton] at h
      subst h
      have m1 := nxt_bd (l := l) (j := 1) (m := 5) (by omega)
      have m2 := nxt_bd (l := l) (j := 2) (m := 65) (by omega)
      have m3 := nxt_bd (l := l) (j := 3) (m := 65) (by omega)
      have m4 := nxt_bd (l := l) (j := 4) (m := 20) (by omega)
      exact ⟨by simp only; omega, by simp only; omega, by simp only; omega, by simp only; omega, _, rfl, inV_mk ⟨by omega, by omega⟩ ⟨by omega, by omega⟩ ⟨by omega, by omega⟩⟩
    · cases h
theorem mkWork_scene (l : List Int) : checkScene (mkWork l).scene = 0 := by
  have hl : (slider 2 64).joints.length = 2 := by simp [slider]
  have hb := wsShapes_bd l
  refine scene_valid (s := ⟨slider 2 64, wsShapes l, []⟩) (slider_ok (by decide) (by decide) (by decide) (by decide)) (by simp only; omega) (fun x hx => ?_) (by simp) (by simp)
  obtain ⟨h1, h2, h3, h4, p, hp, hv⟩ := wsShapes_in hx
  rw [hl]
  exact shapeErr_zero (linkOk_mk (by omega) (by omega)) ⟨by omega, by omega⟩ (by rw [hp]; simp) (by rw [hp]; simp [hv])
def grOk (l : List Int) (n : Nat) (g : TGrip) : Prop := 0 ≤ g.hand ∧ g.hand < n ∧ 0 ≤ g.place ∧ g.place < wsN1 l ∧ ∃ a b, g.at_ = [a, b] ∧ 0 ≤ a ∧ a ≤ 64 ∧ 0 ≤ b ∧ b ≤ 64
theorem grRow_ok {l : List Int} {h N : Nat} (hh : h < N) : ∀ (n : Nat) (s : Nat × List TGrip), n ≤ wsN1 l → (∀ g ∈ s.2, grOk l N g) → ∀ g ∈ (grRow l h n s).2, grOk l N g
  | 0, s, _, hs => hs
  | n + 1, s, hn, hs => by
    have ih := grRow_ok hh n s (by omega) hs
    rw [grRow_succ, grAdd]
    split
    · intro g hg
      rcases List.mem_append.1 hg with hg | hg
      · exact ih g hg
      · simp only [List.mem_singleton] at hg
        subst hg
        have b1 := wsN1_bd l
        have m1 := nxt_bd (l := l) (j := (grRow l h n s).1 + 1) (m := 5) (by omega)
        have m2 := nxt_bd (l := l) (j := wsP1 l + 1 + n) (m := 3) (by omega)
        have ex : (wsPl l n).x = 16 * ((wsN1 l : Int) - n) := rfl
        have ey : (wsPl l n).y = 8 * nxt l (wsP1 l + 1 + n) 3 := rfl
        exact ⟨by simp only; omega, by simp only; omega, by simp only; omega, by simp only; omega, _, _, rfl, by omega, by omega, by omega, by omega⟩
    · exact ih
theorem grAll_ok {l : List Int} {N : Nat} : ∀ n, n ≤ N → ∀ g ∈ (grAll l n).2, grOk l N g
  | 0, _ => fun g hg => (by cases hg)
  | n + 1, hn => by
    rw [grAll_succ]
    exact grRow_ok (by omega) _ _ (Nat.le_refl _) (grAll_ok n (by omega))
theorem wsOb_solid (l : List Int) (k : Nat) : solidB (wsOb l k) = true := by
  have m1 := nxt_bd (l := l) (j := wsP2 l + 3 + 2 * k) (m := 2) (by omega)
  have m2 := nxt_bd (l := l) (j := wsP2 l + 3 + 2 * k + 1) (m := 3) (by omega)
  have v1 : inV ⟨0, 0, nxt l (wsP2 l + 3 + 2 * k + 1) 3⟩ 4194304 = true := inV_mk ⟨by omega, by omega⟩ ⟨by omega, by omega⟩ ⟨by omega, by omega⟩
  have v2 : inV ⟨0, 0, nxt l (wsP2 l + 3 + 2 * k + 1) 3⟩ 2097152 = true := inV_mk ⟨by omega, by omega⟩ ⟨by omega, by omega⟩ ⟨by omega, by omega⟩
  simp only [solidB, wsOb, oshapeB, shapeB, nearB, List.all_cons, List.all_nil, v1, v2, List.length_cons, List.length_nil, Bool.and_eq_true, decide_eq_true_eq]
  refine ⟨⟨⟨⟨⟨⟨⟨⟨?_, ?_⟩, ?_⟩, ?_⟩, ?_⟩, ?_⟩, ?_⟩, ?_⟩, ?_⟩ <;> first | omega | trivial | decide
theorem mkWork_objs (l : List Int) : objsB [] (mkWork l).objects = true := by
  have hb := wsN3_bd l
  show objsB [] ((List.range (wsN3 l)).map (wsOb l)) = true
  have s0 := wsOb_solid l 0
  have s1 := wsOb_solid l 1
  have c : wsN3 l = 1 ∨ wsN3 l = 2 := by omega
  rcases c with c | c
  · rw [c]
    have n0 : nameOk (wsOb l 0).name = true := by simp only [wsOb, c]; decide
    show (objB [] (wsOb l 0) && true) = true
    rw [objB, n0, s0]; rfl
  · rw [c]
    have n0 : nameOk (wsOb l 0).name = true := by simp only [wsOb, c]; decide
    have n1 : nameOk (wsOb l 1).name = true := by simp only [wsOb, c]; decide
    have ne : decide ((wsOb l 0).name = (wsOb l 1).name) = false := by simp only [wsOb, c]; decide
    show (objB [] (wsOb l 0) && (objB [wsOb l 0] (wsOb l 1) && true)) = true
    rw [objB, objB, n0, s0, n1, s1]
    simp [ne]
theorem mkWork_sizes (l : List Int) : (mkWork l).objects.length = wsN3 l ∧ (mkWork l).places.length = wsN1 l ∧ (mkWork l).hands.length = wsN2 l := by simp [mkWork]
theorem mkWork_fit (l : List Int) : fitB (mkWork l) = true := by
  have b1 := wsN1_bd l
  have b2 := wsN2_bd l
  have b3 := wsN3_bd l
  have bg := grAll_len l (wsN2 l)
  have m1 := nxt_bd (l := l) (j := wsP2 l + 1) (m := 4) (by omega)
  have hr : checkRobot (slider 2 64) = 0 := slider_ok (by decide) (by decide) (by decide) (by decide)
  have hs : sizesB (mkWork l) = true := by
    obtain ⟨e1, e2, e3⟩ := mkWork_sizes l
    have e4 : (mkWork l).grips.length = (grAll l (wsN2 l)).2.length := rfl
    have e5 : (mkWork l).slack = 4 + nxt l (wsP2 l + 1) 4 := rfl
    rw [sizesB, e1, e2, e3, e4, e5]
    simp only [Bool.and_eq_true, decide_eq_true_eq]
    omega
  have hp : (mkWork l).places.all nearB = true := by
    rw [List.all_eq_true]
    intro v hv
    obtain ⟨k, hk, rfl⟩ := List.mem_map.1 hv
    have := List.mem_range.1 hk
    have m2 := nxt_bd (l := l) (j := wsP1 l + 1 + k) (m := 3) (by omega)
    exact inV_mk ⟨by omega, by omega⟩ ⟨by omega, by omega⟩ ⟨by omega, by omega⟩
  have hh : (mkWork l).hands.all (handB (mkWork l)) = true := by
    rw [List.all_eq_true]
    intro v hv
    obtain ⟨k, hk, rfl⟩ := List.mem_map.1 hv
    have := List.mem_range.1 hk
    have hn : nearB (wsHa l k).off = true := inV_mk ⟨by omega, by omega⟩ ⟨by omega, by omega⟩ ⟨by omega, by omega⟩
    have hj : (mkWork l).scene.robot.joints.length = 2 := by simp [mkWork, slider]
    rw [handB, hn, hj]
    simp [wsHa]
  have hg : (mkWork l).grips.all (gripB (mkWork l)) = true := by
    rw [List.all_eq_true]
    intro g hg
    obtain ⟨g1, g2, g3, g4, a, b, ga, a1, a2, a3, a4⟩ := grAll_ok (l := l) (wsN2 l) (Nat.le_refl _) g hg
    have hk : knownB (mkWork l) g.hand g.place = true := by
      simp only [knownB, mkWork, List.length_map, List.length_range, Bool.and_eq_true, decide_eq_true_eq]
      omega
    have hi : insideB (mkWork l).scene.robot g.at_ = true := by
      rw [ga]
      show (decide (checkRobot (slider 2 64) = 0) && (linB (sliderJ 64 0) a && (linB (sliderJ 64 1) b && true))) = true
      rw [hr]
      simp [linB, sliderJ, a1, a2, a3, a4]
    rw [gripB, hk, hi]; rfl
  rw [fitB, hs, hp, hh, hg]; rfl
theorem mkWork_ok (l : List Int) : workErr (mkWork l) = 0 := by
  refine workErr_zero (mkWork_scene l) (mkWork_fit l) (mkWork_objs l) ?_
  have hb := wsShapes_bd l
  have b3 := wsN3_bd l
  have hc : countOf (mkWork l).objects ≤ 2 := by
    show ((((List.range (wsN3 l)).map (wsOb l)).map fun o => o.shapes.length).sum) ≤ 2
    have c : wsN3 l = 1 ∨ wsN3 l = 2 := by omega
    rcases c with c | c <;> rw [c] <;> simp [wsOb, List.range_succ]
  show (wsShapes l).length + _ ≤ 24
  omega
theorem mkWork_mild (l : List Int) : mild (mkWork l) := by
  have b1 := wsN1_bd l
  have b2 := wsN2_bd l
  have b3 := wsN3_bd l
  have bg := grAll_len l (wsN2 l)
  have hb := wsShapes_bd l
  refine ⟨⟨by simp [mkWork, slider], by simp [mkWork, slider], by simp only [mkWork]; omega, by simp [mkWork], fun x hx => ?_⟩, by simp only [mkWork, List.length_map, List.length_range]; omega, fun o ho => ?_, by simp only [mkWork, List.length_map, List.length_range]; omega, by simp only [mkWork, List.length_map, List.length_range]; omega, by simp only [mkWork]; omega, fun g hg => ?_⟩
  · obtain ⟨_, _, _, _, p, hp, _⟩ := wsShapes_in hx
    rw [hp]; simp
  · obtain ⟨k, _, rfl⟩ := List.mem_map.1 ho
    simp [wsOb]
  · obtain ⟨_, _, _, _, a, b, ga, _⟩ := grAll_ok (l := l) (wsN2 l) (Nat.le_refl _) g hg
    rw [ga]; simp
theorem mkMode_valid (l x : List Int) : ValidF (mkWork l) (mkMode (mkWork l) x) := by
  have b1 := wsN1_bd l
  have b2 := wsN2_bd l
  have b3 := wsN3_bd l
  obtain ⟨e1, e2, e3⟩ := mkWork_sizes l
  exact mkMode_ok (mkWork_ok l) (by omega) (by omega) x
theorem mk_Mode_made (l x : List Int) (hx : x.length ≤ 4611686018427387904) : FnOk Try.prog F.mk_Mode [Wk (mkWork l), Li x] [] 0 (Md (mkMode (mkWork l) x)) [] 0 := by
  have b1 := wsN1_bd l
  have b2 := wsN2_bd l
  have b3 := wsN3_bd l
  obtain ⟨e1, e2, e3⟩ := mkWork_sizes l
  exact mk_Mode (mkWork l) x hx (by omega) (by omega) (by omega) (by omega)
end Go.Proofs.Ytopcjmipldkijaa

/- mk.Same for numbers and for actions. Printed by a program. -/
namespace Go.Proofs.Ytopcjmipldkijaa
open Eng
set_option maxRecDepth 10000
attribute [local irreducible] FnOk loopW idxF retX arrF

theorem mk_Same_int (a b : List Int) (ha : a.length ≤ 4611686018427387904) (hb : b.length ≤ 4611686018427387904) : FnOk Try.prog F.mk_Same_int [.one (.dv (.lst 1 (a.map encI))), .one (.dv (.lst 1 (b.map encI)))] [] 0 (Bo (decide (a = b))) [] 0 := by
  refine fnOk tab mix G.mk_Same_int rfl rfl (by kernel_rfl) rfl rfl ?_
  (conv => whnf)
  refine ask_m (fun h => ?_) (fun h => ?_)
  · (conv => whnf)
    refine ret0 ?_
    refine ret_b (Eq.symm (decide_eq_false ?_)) rfl
    rintro rfl
    simp at h
  have hl : a.length = b.length := by simp at h; omega
  (conv => whnf)
  refine loop_intro (fun k : Nat => ⟨[(0, .one (.dv (.lst 1 (a.map encI)))), (1, .one (.dv (.lst 1 (b.map encI)))), (5, I k)], [], 0⟩) (fun k => k ≤ a.length ∧ a.take k = b.take k) (fun k => a.length - k) [] 0 [] ⟨Nat.zero_le _, rfl⟩ ⟨⟨rfl, rfl, rfl, trivial⟩, trivial⟩ ?_
  rintro k ⟨hk, hall⟩
  (conv => whnf)
  refine ask_m (fun h => ?_) (fun h => ?_)
  · have hlt : k < a.length := by simpa using h
    obtain ⟨x, hx⟩ : ∃ j, a[k]? = some j := ⟨_, List.getElem?_eq_getElem hlt⟩
    obtain ⟨y, hy⟩ : ∃ j, b[k]? = some j := ⟨_, List.getElem?_eq_getElem (by omega)⟩
    have hkk : IntKind.i64.wrap ((k : Int) + 1) = ((k + 1 : Nat) : Int) := by rw [w64] <;> omega
    (conv => whnf)
    refine idx_and (by omega) (by simpa using hx) ?_
    (conv => whnf)
    refine idx_and (by omega) (by simpa using hy) ?_
    (conv => whnf)
    refine ask_m (fun h => ?_) (fun h => ?_)
    · (conv => whnf)
      refine ret0 ?_
      refine ret_b (Eq.symm (decide_eq_false (ne_at hx hy ?_))) rfl
      rintro rfl
      simp at h
    · skip
      have e : x = y := by simpa using h
      subst e
      (conv => whnf)
      exact ⟨k + 1, [], ⟨hlt, take_same hall hx hy⟩, by omega, ⟨⟨rfl, rfl, eqI hkk, trivial⟩, trivial⟩⟩
  · have hk : k = a.length := by simp at h; omega
    subst hk
    rw [List.take_length, hl, List.take_length] at hall
    (conv => whnf)
    refine ret0 ?_
    exact ret_b (decide_eq_true hall).symm rfl
theorem cmp_mk_Same_act : cmpB Try.prog 8 Y.Action = true ∧ Try.prog.eqGuardType Try.prog.depth Y.Action = false := ⟨by kernel_rfl, by kernel_rfl⟩
theorem mk_Same_act (a b : List TAct) (ha : a.length ≤ 4611686018427387904) (hb : b.length ≤ 4611686018427387904) : FnOk Try.prog F.mk_Same_api_Action [.one (.dv (.lst 3 (a.map encAc))), .one (.dv (.lst 3 (b.map encAc)))] [] 0 (Bo (decide (a = b))) [] 0 := by
  refine fnOk tab mix G.mk_Same_api_Action rfl rfl (by kernel_rfl) rfl rfl ?_
  (conv => whnf)
  refine ask_m (fun h => ?_) (fun h => ?_)
  · (conv => whnf)
    refine ret0 ?_
    refine ret_b (Eq.symm (decide_eq_false ?_)) rfl
    rintro rfl
    simp at h
  have hl : a.length = b.length := by simp at h; omega
  (conv => whnf)
  refine loop_intro (fun k : Nat => ⟨[(0, .one (.dv (.lst 3 (a.map encAc)))), (1, .one (.dv (.lst 3 (b.map encAc)))), (5, I k)], [], 0⟩) (fun k => k ≤ a.length ∧ a.take k = b.take k) (fun k => a.length - k) [] 0 [] ⟨Nat.zero_le _, rfl⟩ ⟨⟨rfl, rfl, rfl, trivial⟩, trivial⟩ ?_
  rintro k ⟨hk, hall⟩
  (conv => whnf)
  refine ask_m (fun h => ?_) (fun h => ?_)
  · have hlt : k < a.length := by simpa using h
    obtain ⟨x, hx⟩ : ∃ j, a[k]? = some j := ⟨_, List.getElem?_eq_getElem hlt⟩
    obtain ⟨y, hy⟩ : ∃ j, b[k]? = some j := ⟨_, List.getElem?_eq_getElem (by omega)⟩
    have hkk : IntKind.i64.wrap ((k : Int) + 1) = ((k + 1 : Nat) : Int) := by rw [w64] <;> omega
    (conv => whnf)
    refine idx_and (by omega) (by simpa using hx) ?_
    (conv => whnf)
    refine idx_and (by omega) (by simpa using hy) ?_
    (conv => whnf)
    refine ⟨cmp_mk_Same_act, ?_⟩
    (conv => whnf)
    refine ask_m (fun h => ?_) (fun h => ?_)
    · (conv => whnf)
      refine ret0 ?_
      refine ret_b (Eq.symm (decide_eq_false (ne_at hx hy ?_))) rfl
      rintro rfl
      simp at h
    · skip
      have e : x = y := by
        cases x; cases y; simp at h; simp [h]
      subst e
      (conv => whnf)
      exact ⟨k + 1, [], ⟨hlt, take_same hall hx hy⟩, by omega, ⟨⟨rfl, rfl, eqI hkk, trivial⟩, trivial⟩⟩
  · have hk : k = a.length := by simp at h; omega
    subst hk
    rw [List.take_length, hl, List.take_length] at hall
    (conv => whnf)
    refine ret0 ?_
    exact ret_b (decide_eq_true hall).symm rfl
end Go.Proofs.Ytopcjmipldkijaa

/- Joined scenes: the data, and team's functions up to addShapes. -/
namespace Go.Proofs.Ytopcjmipldkijaa
open Eng
set_option maxRecDepth 10000
attribute [local irreducible] FnOk loopW idxF retX arrF

abbrev ww (x : Int) : Int := IntKind.i64.wrap x
def addV (b v : Vec) : Vec := ⟨ww (v.x + b.x), ww (v.y + b.y), ww (v.z + b.z)⟩
def joinV (b v : Vec) (n : Int) : Vec := if n = -1 then addV b v else v
def raise (p n : Int) : Int := if n = -1 then -1 else n + p
abbrev Am (t : ByteArray) (p : Int) (b : Vec) : SV := .agg [.dv (.str t), .dv (.int .i64 p), .dv (.int .i64 b.x), .dv (.int .i64 b.y), .dv (.int .i64 b.z)]
def vS (b v : Vec) : Nat → Vec
  | 0 => v
  | 1 => ⟨ww (v.x + b.x), v.y, v.z⟩
  | 2 => ⟨ww (v.x + b.x), ww (v.y + b.y), v.z⟩
  | _ => addV b v
/- scenes joined one after the other -/
def joinJ (t : ByteArray) (p : Int) (b : Vec) (j : Joint) : Joint := ⟨t ++ j.name, j.kind, raise p j.parent, joinV b j.off j.parent, j.lo, j.hi, j.weight, j.speed, j.accel, j.torque⟩
def joinM (p : Int) (m : Mass) : Mass := ⟨raise p m.link, m.mass, m.point⟩
def joinSh (p : Int) (b : Vec) (x : Shape) : Shape := ⟨raise p x.link, x.radius, x.points.map fun v => joinV b v x.link⟩
def joinSk (p : Int) (k : Skip) : Skip := ⟨raise p k.a, raise p k.b⟩
def addScene (acc : Scene) (t : ByteArray) (b : Vec) (s : Scene) : Scene :=
  ⟨⟨acc.robot.joints ++ s.robot.joints.map (joinJ t acc.robot.joints.length b), acc.robot.masses ++ s.robot.masses.map (joinM acc.robot.joints.length)⟩, acc.shapes ++ s.shapes.map (joinSh acc.robot.joints.length b), acc.skips ++ s.skips.map (joinSk acc.robot.joints.length)⟩
end Go.Proofs.Ytopcjmipldkijaa

/- team: Clone, addRobot, addShapes. -/
namespace Go.Proofs.Ytopcjmipldkijaa
open Eng
set_option maxRecDepth 10000
attribute [local irreducible] FnOk loopW idxF retX arrF

abbrev bJs (js : List Joint) : Box := .rows Y.Joint 12 (js.map encJ)
abbrev bMs (ms : List Mass) : Box := .rows Y.Mass 5 (ms.map encM)
abbrev bShs (ss : List Shape) : Box := .rows Y.Shape 3 (ss.map encSh)
abbrev bSks (ss : List Skip) : Box := .rows Y.Skip 2 (ss.map encSk)
theorem map_enc1 {α β : Type} (f : α → β) (enc : β → List DV) (A : List β) {l : List α} {k : Nat} {x : α} (h : l[k]? = some x) : (A ++ (l.take (k + 1)).map f).map enc = (A ++ (l.take k).map f).map enc ++ [enc (f x)] := by
  rw [map_take1 f h, ← List.append_assoc, List.map_append]; rfl
theorem set_mid {α : Type} {A B : List α} {x y : α} {k : Nat} (h : A.length = k) : (A ++ x :: B).set k y = A ++ y :: B := by
  subst h; simp
end Go.Proofs.Ytopcjmipldkijaa

/- team.Join. -/
namespace Go.Proofs.Ytopcjmipldkijaa
open Eng
set_option maxRecDepth 10000
attribute [local irreducible] FnOk loopW idxF retX arrF

def encSc (s : Scene) : List DV := [dJs s.robot.joints, dMs s.robot.masses, dShs s.shapes, dSks s.skips]
abbrev dScs (l : List Scene) : DV := .lst 4 (l.map encSc)
def emptyS : Scene := ⟨⟨[], []⟩, [], []⟩
def joinTo (l : List Scene) (bs : List Vec) : Nat → Scene
  | 0 => emptyS
  | k + 1 => addScene (joinTo l bs k) (letter k) (bs.getD k ⟨0, 0, 0⟩) (l.getD k emptyS)
def firstBad : List Scene → Int
  | [] => 0
  | s :: l => if checkScene s = 0 then firstBad l else checkScene s
def joinOf (l : List Scene) (bs : List Vec) : Scene × Int :=
  if l.length < 1 ∨ 4 < l.length ∨ bs.length ≠ l.length then (emptyS, 3501)
  else if firstBad l ≠ 0 then (emptyS, firstBad l)
  else if checkScene (joinTo l bs l.length) ≠ 0 then (emptyS, 3502)
  else (joinTo l bs l.length, 0)
abbrev JnR (r : Scene × Int) : SV := .tup [(true, [.dv (dJs r.1.robot.joints), .dv (dMs r.1.robot.masses), .dv (dShs r.1.shapes), .dv (dSks r.1.skips)]), (false, [.dv (.int .i64 r.2)])]
abbrev bScZ : Box := .vars Y.Scene [.nil 12, .nil 5, .nil 3, .nil 2]
theorem getD_at {α : Type} {l : List α} {k : Nat} {x d : α} (h : l[k]? = some x) : l.getD k d = x := by
  rw [List.getD_eq_getElem?_getD, h]; rfl
theorem firstBad_all : ∀ {l : List Scene}, firstBad l = 0 → ∀ s ∈ l, checkScene s = 0
  | [], _, s, hs => by cases hs
  | x :: l, h, s, hs => by
    rw [firstBad] at h
    split at h
    · rename_i h0
      rcases List.mem_cons.1 hs with rfl | hs
      · exact h0
      · exact firstBad_all h s hs
    · rename_i h0; exact absurd h h0
structure Sized (n : Nat) (s : Scene) : Prop where
  joints : s.robot.joints.length ≤ 10 * n
  masses : s.robot.masses.length ≤ 32 * n
  shapes : s.shapes.length ≤ 24 * n
  skips : s.skips.length ≤ 64 * n
  points : ∀ x ∈ s.shapes, x.points.length ≤ 8
theorem Sized.small {n : Nat} {s : Scene} (h : Sized n s) (hn : n ≤ 1000) : small s := by
  have := h.joints; have := h.masses; have := h.shapes; have := h.skips
  exact ⟨by omega, by omega, by omega, by omega, fun x hx => by have := h.points x hx; omega⟩
theorem joinTo_sized {l : List Scene} (bs : List Vec) (hl : ∀ s ∈ l, checkScene s = 0) : ∀ k, k ≤ l.length → Sized k (joinTo l bs k)
  | 0, _ => ⟨Nat.le_refl _, Nat.le_refl _, Nat.le_refl _, Nat.le_refl _, fun x hx => by cases hx⟩
  | k + 1, h => by
    obtain ⟨i1, i2, i3, i4, i5⟩ := joinTo_sized bs hl k (by omega)
    obtain ⟨s, hs⟩ : ∃ s, l[k]? = some s := ⟨_, List.getElem?_eq_getElem (by omega)⟩
    obtain ⟨g0, g1, g2, g3, g4⟩ := scene_facts (hl s (List.mem_of_getElem? hs))
    obtain ⟨f1, _, f3, _⟩ := robot_facts g0
    rw [joinTo, getD_at hs]
    refine ⟨?_, ?_, ?_, ?_, fun x hx => ?_⟩
    · simp only [addScene, List.length_append, List.length_map]; omega
    · simp only [addScene, List.length_append, List.length_map]; omega
    · simp only [addScene, List.length_append, List.length_map]; omega
    · simp only [addScene, List.length_append, List.length_map]; omega
    · rcases List.mem_append.1 hx with hx | hx
      · exact i5 x hx
      · obtain ⟨y, hy, rfl⟩ := List.mem_map.1 hx
        have := (g2 y hy).2.2.1
        simp only [joinSh, List.length_map]; exact this
theorem enc_letter : ∀ k : Nat, k < 4 → Utf8.encode (IntKind.i32.wrap (IntKind.i64.wrap (97 + (k : Int)))) = letter k := by decide
theorem letter_size : ∀ k, k < 10 → (letter k).size = 1 := by decide
theorem firstBad_at {k : Nat} {l : List Scene} {s : Scene} (h : l[k]? = some s) : firstBad (l.drop k) = if checkScene s = 0 then firstBad (l.drop (k + 1)) else checkScene s := by
  rw [drop_cons h, firstBad]
end Go.Proofs.Ytopcjmipldkijaa

/- mk.SameRobot and what it calls. -/
namespace Go.Proofs.Ytopcjmipldkijaa
open Eng
set_option maxRecDepth 10000
attribute [local irreducible] FnOk loopW idxF retX arrF

deriving instance DecidableEq for Joint
deriving instance DecidableEq for Mass
deriving instance DecidableEq for Shape
deriving instance DecidableEq for Robot
deriving instance DecidableEq for Scene
theorem cmp_mk_Same_Mass : cmpB Try.prog 8 Y.Mass = true ∧ Try.prog.eqGuardType Try.prog.depth Y.Mass = false := ⟨by kernel_rfl, by kernel_rfl⟩
theorem cmp_mk_Same_Joint : cmpB Try.prog 8 Y.Joint = true ∧ Try.prog.eqGuardType Try.prog.depth Y.Joint = false := ⟨by kernel_rfl, by kernel_rfl⟩
end Go.Proofs.Ytopcjmipldkijaa

/- law35: the comparisons of lists and scenes. -/
namespace Go.Proofs.Ytopcjmipldkijaa
open Eng
set_option maxRecDepth 10000
attribute [local irreducible] FnOk loopW idxF retX arrF

theorem cmp_mk_Same_Vec : cmpB Try.prog 8 Y.Vec = true ∧ Try.prog.eqGuardType Try.prog.depth Y.Vec = false := ⟨by kernel_rfl, by kernel_rfl⟩
theorem cmp_mk_Same_Skip : cmpB Try.prog 8 Y.Skip = true ∧ Try.prog.eqGuardType Try.prog.depth Y.Skip = false := ⟨by kernel_rfl, by kernel_rfl⟩
def smallB (s : Scene) : Bool := decide (s.robot.joints.length ≤ 4) && decide (s.robot.masses.length ≤ 6) && decide (s.shapes.length ≤ 6) && decide (s.skips.length ≤ 8)
theorem mk_SmallScene (s : Scene) : FnOk Try.prog F.mk_SmallScene [Sc s] [] 0 (Bo (smallB s)) [] 0 := by
  refine fnOk tab mix G.mk_SmallScene rfl rfl (by kernel_rfl) rfl rfl ?_
  (conv => whnf)
  refine ask_m (fun h1 => ?_) (fun h1 => ?_)
  · have h1 : s.robot.joints.length ≤ 4 := by have := of_decide_eq_true h1; simp only [List.length_map] at this; omega
    (conv => whnf)
    refine ask_m (fun h2 => ?_) (fun h2 => ?_)
    · have h2 : s.robot.masses.length ≤ 6 := by have := of_decide_eq_true h2; simp only [List.length_map] at this; omega
      (conv => whnf)
      refine ask_m (fun h3 => ?_) (fun h3 => ?_)
      · have h3 : s.shapes.length ≤ 6 := by have := of_decide_eq_true h3; simp only [List.length_map] at this; omega
        (conv => whnf)
        refine ret0 ?_
        exact ret_b (by simp [smallB, h1, h2, h3]; omega) rfl
      · have h3 : ¬ s.shapes.length ≤ 6 := by have := of_decide_eq_false h3; simp only [List.length_map] at this; omega
        (conv => whnf)
        refine ret0 ?_
        exact ret_b (by simp [smallB, h3]) rfl
    · have h2 : ¬ s.robot.masses.length ≤ 6 := by have := of_decide_eq_false h2; simp only [List.length_map] at this; omega
      (conv => whnf)
      refine ret0 ?_
      exact ret_b (by simp [smallB, h2]) rfl
  · have h1 : ¬ s.robot.joints.length ≤ 4 := by have := of_decide_eq_false h1; simp only [List.length_map] at this; omega
    (conv => whnf)
    refine ret0 ?_
    exact ret_b (by simp [smallB, h1]) rfl
end Go.Proofs.Ytopcjmipldkijaa

/- law38.one, law38.awake, law38.solves, law38.small, law38.action. -/
namespace Go.Proofs.Ytopcjmipldkijaa
open Eng
set_option maxRecDepth 10000
attribute [local irreducible] FnOk loopW idxF retX arrF findF

def oneWork : TWork := ⟨⟨slider 2 64, [], []⟩, [⟨⟨#[111]⟩, [⟨0, 1, [⟨0, 0, 0⟩]⟩]⟩], [⟨16, 0, 0⟩, ⟨32, 0, 0⟩], [⟨1, ⟨0, 0, 0⟩⟩], [⟨0, 0, [16, 0]⟩, ⟨0, 1, [32, 0]⟩], 0⟩
theorem law38_one : FnOk Try.prog F.law38_one [] [] 0 (Wk oneWork) [] 0 := by
  refine fnOk tab mix G.law38_one rfl rfl (by kernel_rfl) rfl rfl ?_
  (conv => whnf)
  refine call_i (mk_Slider 2 64 (by omega)) ?_
  (conv => whnf)
  (conv => whnf)
  refine retO [.ownC 0 2 Y.Shape 3, .ownC 0 3 Y.Skip 2, .frz 2, .frz 3, .frz 6, .frz 9, .frz 10, .frz 11] ?_
  (conv => whnf)
  exact ⟨[], ⟨rfl, trivial⟩, trivial⟩
theorem one_err : workErr oneWork = 0 := by decide
theorem run_more {w : TWork} {g : List Int} {lim : Int} {bs : List TBan} {r : List TAct} : ∀ (f f' i : Nat) (ns : List Nd), f ≤ f' → runS w g lim bs f i ns = some r → runS w g lim bs f' i ns = some r
  | 0, _, _, _, _, h => by cases h
  | f + 1, 0, _, _, hf, _ => by omega
  | f + 1, f' + 1, i, ns, hf, h => by
    rw [runS] at h ⊢
    split at h
    · cases h
    · split at h
      · rename_i h1; rw [if_pos h1]; exact h
      · rename_i h1; rw [if_neg h1]; exact run_more f f' _ _ (by omega) h
theorem one_run : runS oneWork [1] 4 [] (5 + 1) 0 [root [0]] = some [⟨1, 0, 0⟩, ⟨2, 0, 1⟩] := by decide
theorem one_solve : solveR oneWork [0] [1] 4 [] = some [⟨1, 0, 0⟩, ⟨2, 0, 1⟩] := by
  rw [solveR, if_pos (by decide)]
  exact run_more _ _ _ _ (by decide) one_run
theorem one_mild : mild oneWork := by
  refine ⟨⟨by decide, by decide, by decide, by decide, by decide⟩, by decide, ?_, by decide, by decide, by decide, by decide⟩
  intro o ho
  simp only [oneWork, List.mem_singleton] at ho
  subst ho
  simp
theorem law38_awake : FnOk Try.prog F.law38_awake [] [] 0 (Bo true) [] 0 := by
  refine fnOk tab mix G.law38_awake rfl rfl (by kernel_rfl) rfl rfl ?_
  (conv => whnf)
  refine call_i (law38_one) ?_
  (conv => whnf)
  refine call_i (task_Solve oneWork [0] [1] 4 [] one_mild (by decide) (by decide)) ?_
  (conv => whnf)
  rw [one_solve]
  (conv => whnf)
  refine call_i (mk_Same_act [⟨1, 0, 0⟩, ⟨2, 0, 1⟩] [⟨1, 0, 0⟩, ⟨2, 0, 1⟩] (by decide) (by decide)) ?_
  (conv => whnf)
  refine ⟨⟨trivial, trivial⟩, ?_⟩
  (conv => whnf)
  (conv => whnf)
  refine ret0 ?_
  exact ret_b (by decide) rfl
def smallWB (w : TWork) : Bool := smallB w.scene && decide (w.objects.length ≤ 8) && decide (w.places.length ≤ 12) && decide (w.hands.length ≤ 6) && decide (w.grips.length ≤ 40)
theorem law38_small (w : TWork) : FnOk Try.prog F.law38_small [Wk w] [] 0 (Bo (smallWB w)) [] 0 := by
  refine fnOk tab mix G.law38_small rfl rfl (by kernel_rfl) rfl rfl ?_
  (conv => whnf)
  refine call_i (mk_SmallScene w.scene) ?_
  (conv => whnf)
  cases h1 : smallB w.scene with
  | false =>
    (conv => whnf)
    (conv => whnf)
    refine ret0 ?_
    exact ret_b (by rw [smallWB, h1]; rfl) rfl
  | true =>
  (conv => whnf)
  refine ask_m (fun h2 => ?_) (fun h2 => ?_)
  · have h2 : w.objects.length ≤ 8 := by have := of_decide_eq_true h2; simp only [List.length_map] at this; omega
    (conv => whnf)
    refine ask_m (fun h3 => ?_) (fun h3 => ?_)
    · have h3 : w.places.length ≤ 12 := by have := of_decide_eq_true h3; simp only [List.length_map] at this; omega
      (conv => whnf)
      refine ask_m (fun h4 => ?_) (fun h4 => ?_)
      · have h4 : w.hands.length ≤ 6 := by have := of_decide_eq_true h4; simp only [List.length_map] at this; omega
        (conv => whnf)
        refine ret0 ?_
        exact ret_b (by simp [smallWB, h1, h2, h3, h4]; omega) rfl
      · have h4 : ¬ w.hands.length ≤ 6 := by have := of_decide_eq_false h4; simp only [List.length_map] at this; omega
        (conv => whnf)
        refine ret0 ?_
        exact ret_b (by simp [smallWB, h4]) rfl
    · have h3 : ¬ w.places.length ≤ 12 := by have := of_decide_eq_false h3; simp only [List.length_map] at this; omega
      (conv => whnf)
      refine ret0 ?_
      exact ret_b (by simp [smallWB, h3]) rfl
  · have h2 : ¬ w.objects.length ≤ 8 := by have := of_decide_eq_false h2; simp only [List.length_map] at this; omega
    (conv => whnf)
    refine ret0 ?_
    exact ret_b (by simp [smallWB, h2]) rfl
def mkAct (w : TWork) (a b c : Int) : TAct := ⟨a % 4, b % (w.hands.length + 2) - 1, c % (w.places.length + 2) - 1⟩
theorem law38_action (w : TWork) (a b c : Int) (h1 : w.hands.length ≤ 1000) (h2 : w.places.length ≤ 1000) : FnOk Try.prog F.law38_action [Wk w, I a, I b, I c] [] 0 (Ac (mkAct w a b c)) [] 0 := by
  have m1 : 0 ≤ b % ((w.hands.length : Int) + 2) ∧ b % ((w.hands.length : Int) + 2) < w.hands.length + 2 := ⟨Int.emod_nonneg _ (by omega), Int.emod_lt_of_pos _ (by omega)⟩
  have m2 : 0 ≤ c % ((w.places.length : Int) + 2) ∧ c % ((w.places.length : Int) + 2) < w.places.length + 2 := ⟨Int.emod_nonneg _ (by omega), Int.emod_lt_of_pos _ (by omega)⟩
  have e1 : IntKind.i64.wrap (((w.hands.map encH).length : Int) + 2) = (w.hands.length : Int) + 2 := by simp only [List.length_map]; rw [w64] <;> omega
  have e2 : IntKind.i64.wrap (((w.places.map encV).length : Int) + 2) = (w.places.length : Int) + 2 := by simp only [List.length_map]; rw [w64] <;> omega
  have e3 : IntKind.i64.wrap (b % ((w.hands.length : Int) + 2) - 1) = b % ((w.hands.length : Int) + 2) - 1 := by rw [w64] <;> omega
  have e4 : IntKind.i64.wrap (c % ((w.places.length : Int) + 2) - 1) = c % ((w.places.length : Int) + 2) - 1 := by rw [w64] <;> omega
  refine fnOk tab mix G.law38_action rfl rfl (by kernel_rfl) rfl rfl ?_
  (conv => whnf)
  refine call_i (mk_Round a 4 (by omega) (by omega)) ?_
  (conv => whnf)
  rw [e1]
  refine call_i (mk_Round b (w.hands.length + 2) (by omega) (by omega)) ?_
  (conv => whnf)
  rw [e2, e3]
  refine call_i (mk_Round c (w.places.length + 2) (by omega) (by omega)) ?_
  (conv => whnf)
  rw [e4]
  (conv => whnf)
  refine retO [] ?_
  (conv => whnf)
  exact ⟨[], ⟨rfl, trivial⟩, trivial⟩
end Go.Proofs.Ytopcjmipldkijaa

/- What the search finds: ways that can be gone, and none shorter. -/
namespace Go.Proofs.Ytopcjmipldkijaa
open Eng
set_option maxRecDepth 10000

def runP (m : List Int) : List TAct → List Int
  | [] => m
  | a :: l => runP (setAt m a) l
def okP (w : TWork) (bs : List TBan) : List Int → List TAct → Prop
  | _, [] => True
  | m, a :: l => a ∈ actsOf w m ∧ bannedB bs m a = false ∧ okP w bs (setAt m a) l
theorem runP_app : ∀ (l : List TAct) (m : List Int) (a : TAct), runP m (l ++ [a]) = setAt (runP m l) a
  | [], _, _ => rfl
  | b :: l, m, a => runP_app l (setAt m b) a
theorem okP_app {w : TWork} {bs : List TBan} : ∀ (l : List TAct) (m : List Int) (a : TAct), okP w bs m l → a ∈ actsOf w (runP m l) → bannedB bs (runP m l) a = false → okP w bs m (l ++ [a])
  | [], _, _, _, h1, h2 => ⟨h1, h2, trivial⟩
  | b :: l, m, a, h, h1, h2 => ⟨h.1, h.2.1, okP_app l (setAt m b) a h.2.2 h1 h2⟩
theorem way_ok {w : TWork} {m0 : List Int} {lim : Int} {bs : List TBan} {ns : List Nd} (h : WfN w m0 lim bs ns) : ∀ (d k : Nat) (x : Nd), ns[k]? = some x → x.dep = d → okP w bs m0 (wayTo ns d k) ∧ runP m0 (wayTo ns d k) = x.mode ∧ (wayTo ns d k).length = d
  | 0, k, x, hk, hd => by
    by_cases h0 : k = 0
    · subst h0
      have := hk.symm.trans h.rt
      simp only [Option.some.injEq] at this
      subst this
      exact ⟨trivial, rfl, rfl⟩
    · obtain ⟨b, nb, h1, h2, h3, _⟩ := h.bk k x hk (by omega)
      have hn := (h.val b nb h2).2.1
      have hx : x.dep = nb.dep + 1 := by rw [h3]; rfl
      omega
  | d + 1, k, x, hk, hd => by
    by_cases h0 : k = 0
    · subst h0
      have := hk.symm.trans h.rt
      simp only [Option.some.injEq] at this
      subst this
      have : (0 : Int) = ((d + 1 : Nat) : Int) := hd
      omega
    · obtain ⟨b, nb, h1, h2, h3, h4, h5⟩ := h.bk k x hk (by omega)
      have hx : x.dep = nb.dep + 1 := by rw [h3]; rfl
      have hb : x.bef = b := by rw [h3]; rfl
      have hmode : x.mode = setAt nb.mode x.act := by rw [h3]; rfl
      obtain ⟨i1, i2, i3⟩ := way_ok h d b nb h2 (by omega)
      have e : wayTo ns (d + 1) k = wayTo ns d b ++ [x.act] := by
        rw [wayTo, hk]
        show wayTo ns d x.bef.toNat ++ _ = _
        rw [hb, Int.toNat_natCast]
      rw [e]
      refine ⟨okP_app _ _ _ i1 (by rw [i2]; exact h4) (by rw [i2]; exact h5), by rw [runP_app, i2, hmode], by rw [List.length_append, i3]; rfl⟩
/-- what is found is a way to a goal -/
theorem run_sound {w : TWork} {m0 g : List Int} {lim : Int} {bs : List TBan} : ∀ (f i : Nat) (ns : List Nd) (p : List TAct), Turn w m0 lim bs i ns → runS w g lim bs f i ns = some p → okP w bs m0 p ∧ meets (runP m0 p) g = true ∧ (p.length : Int) ≤ lim
  | 0, _, _, _, _, h => by cases h
  | f + 1, i, ns, p, ht, h => by
    cases hx : ns[i]? with
    | none => rw [run_end hx] at h; cases h
    | some x =>
      cases hg : meets x.mode g with
      | true =>
        rw [run_some hx hg] at h
        simp only [Option.some.injEq] at h
        subst h
        have hv := ht.wf.val i x hx
        obtain ⟨h1, h2, h3⟩ := way_ok ht.wf x.dep.toNat i x hx (by omega)
        exact ⟨h1, by rw [h2]; exact hg, by rw [h3]; omega⟩
      | false =>
        by_cases hd : x.dep = lim
        · rw [run_skip hx hg hd] at h
          exact run_sound f (i + 1) ns p (ht.skip hx hd) h
        · rw [run_grow hx hg hd] at h
          exact run_sound f (i + 1) _ p (mid_grow (ht.mid hx hd) fun _ h => h).turn h
/-- the nodes before i have been gone through -/
def Closed (w : TWork) (lim : Int) (bs : List TBan) (i : Nat) (ns : List Nd) : Prop := ∀ (j : Nat) (x : Nd) (a : TAct), j < i → ns[j]? = some x → x.dep ≠ lim → a ∈ actsOf w x.mode → bannedB bs x.mode a = false → ∃ y ∈ ns, y.mode = setAt x.mode a ∧ y.dep ≤ x.dep + 1
theorem add_has (bs : List TBan) (i : Nat) (m : List Int) (d : Int) (ns : List Nd) (a : TAct) (hb : bannedB bs m a = false) : ∃ y ∈ addN bs i m d ns a, y.mode = setAt m a := by
  rw [addN, hb, Bool.false_or]
  split
  · rename_i h
    exact List.mem_map.1 (seen_iff.1 h)
  · exact ⟨child i m d a, by simp, rfl⟩
theorem grow_has (bs : List TBan) (i : Nat) (m : List Int) (d : Int) : ∀ (al : List TAct) (ns : List Nd) (a : TAct), a ∈ al → bannedB bs m a = false → ∃ y ∈ grow bs i m d ns al, y.mode = setAt m a
  | b :: al, ns, a, ha, hb => by
    rcases List.mem_cons.1 ha with rfl | ha
    · obtain ⟨y, h1, h2⟩ := add_has bs i m d ns a hb
      obtain ⟨t, ht⟩ := grow_pre bs i m d al (addN bs i m d ns a)
      refine ⟨y, ?_, h2⟩
      show y ∈ grow bs i m d (addN bs i m d ns a) al
      rw [ht]
      exact List.mem_append.2 (.inl h1)
    · exact grow_has bs i m d al (addN bs i m d ns b) a ha hb
/-- from a node on, along a way, through the closed nodes -/
theorem go_on {w : TWork} {lim : Int} {bs : List TBan} {i : Nat} {ns : List Nd} (hc : Closed w lim bs i ns) (B : Int) (hB : ∀ (j : Nat) (x : Nd), ns[j]? = some x → x.dep < B → j < i) : ∀ (q : List TAct) (m : List Int) (t : Int) (x : Nd), x ∈ ns → x.mode = m → x.dep ≤ t → okP w bs m q → t + q.length ≤ lim → t + q.length ≤ B → ∃ y ∈ ns, y.mode = runP m q ∧ y.dep ≤ t + q.length
  | [], m, t, x, hx, hm, hd, _, _, _ => ⟨x, hx, hm, by simpa using hd⟩
  | a :: q, m, t, x, hx, hm, hd, ho, h1, h2 => by
    simp only [List.length_cons] at h1 h2 ⊢
    obtain ⟨j, hj⟩ := List.getElem?_of_mem hx
    obtain ⟨y, hy, y1, y2⟩ := hc j x a (hB j x hj (by omega)) hj (by omega) (hm ▸ ho.1) (hm ▸ ho.2.1)
    obtain ⟨z, hz, z1, z2⟩ := go_on hc B hB q (setAt m a) (t + 1) y hy (by rw [y1, hm]) (by omega) ho.2.2 (by omega) (by omega)
    exact ⟨z, hz, z1, by omega⟩
/-- what can be reached is found, and by a way no longer -/
theorem run_best {w : TWork} {m0 g : List Int} {lim : Int} {bs : List TBan} {q : List TAct} (hq : okP w bs m0 q) (hql : (q.length : Int) ≤ lim) (hqg : meets (runP m0 q) g = true) : ∀ (f i : Nat) (ns : List Nd), Turn w m0 lim bs i ns → Closed w lim bs i ns → (∀ (j : Nat) (x : Nd), j < i → ns[j]? = some x → meets x.mode g = false) → lots < i + f → ∃ p, runS w g lim bs f i ns = some p ∧ p.length ≤ q.length
  | 0, i, ns, ht, _, _, hf => by
    have := ht.wf.le
    have := ht.le
    omega
  | f + 1, i, ns, ht, hc, hno, hf => by
    have hroot : root m0 ∈ ns := List.mem_of_getElem? ht.wf.rt
    cases hx : ns[i]? with
    | none =>
      obtain ⟨y, hy, y1, y2⟩ := go_on hc (lim + 1) (fun j x hj _ => by
        have h1 := (List.getElem?_eq_some_iff.1 hj).1
        have h2 := List.getElem?_eq_none_iff.1 hx
        omega) q m0 0 (root m0) hroot rfl (Int.le_refl _) hq (by omega) (by omega)
      obtain ⟨j, hj⟩ := List.getElem?_of_mem hy
      have h1 := (List.getElem?_eq_some_iff.1 hj).1
      have h2 := List.getElem?_eq_none_iff.1 hx
      have := hno j y (by omega) hj
      rw [y1, hqg] at this
      cases this
    | some x =>
      cases hg : meets x.mode g with
      | true =>
        refine ⟨_, run_some hx hg, ?_⟩
        have hv := ht.wf.val i x hx
        obtain ⟨_, _, h3⟩ := way_ok ht.wf x.dep.toNat i x hx (by omega)
        rw [h3]
        rcases Nat.lt_or_ge q.length x.dep.toNat with hlt | hge
        · have hB : ∀ (j : Nat) (z : Nd), ns[j]? = some z → z.dep < x.dep → j < i := fun j z hj hz => by
            rcases Nat.lt_or_ge j i with h | h
            · exact h
            · have := ht.wf.mono i j x z hx hj h
              omega
          obtain ⟨y, hy, y1, y2⟩ := go_on hc x.dep hB q m0 0 (root m0) hroot rfl (Int.le_refl _) hq (by omega) (by omega)
          obtain ⟨j, hj⟩ := List.getElem?_of_mem hy
          have := hno j y (hB j y hj (by omega)) hj
          rw [y1, hqg] at this
          cases this
        · exact hge
      | false =>
        by_cases hd : x.dep = lim
        · rw [run_skip hx hg hd]
          refine run_best hq hql hqg f (i + 1) ns (ht.skip hx hd) (fun j z a hj hz hzd => ?_) (fun j z hj hz => ?_) (by omega)
          · by_cases e : j = i
            · subst e
              rw [hx] at hz
              simp only [Option.some.injEq] at hz
              subst hz
              exact absurd hd hzd
            · exact hc j z a (by omega) hz hzd
          · by_cases e : j = i
            · subst e
              rw [hx] at hz
              simp only [Option.some.injEq] at hz
              subst hz
              exact hg
            · exact hno j z (by omega) hz
        · rw [run_grow hx hg hd]
          have hm := mid_grow (ht.mid hx hd) (al := actsOf w x.mode) fun _ h => h
          obtain ⟨t, et⟩ := grow_pre bs i x.mode x.dep (actsOf w x.mode) ns
          have hgh := grow_has bs i x.mode x.dep (actsOf w x.mode) ns
          rw [et] at hm hgh ⊢
          have hil := (List.getElem?_eq_some_iff.1 hx).1
          refine run_best hq hql hqg f (i + 1) (ns ++ t) hm.turn (fun j z a hj hz hzd ha hb => ?_) (fun j z hj hz => ?_) (by omega)
          · rw [List.getElem?_append_left (by omega)] at hz
            by_cases e : j = i
            · subst e
              rw [hx] at hz
              simp only [Option.some.injEq] at hz
              subst hz
              obtain ⟨y, hy, y1⟩ := hgh a ha hb
              obtain ⟨k, hk⟩ := List.getElem?_of_mem hy
              exact ⟨y, hy, y1, hm.mx k y hk⟩
            · obtain ⟨y, hy, y1⟩ := hc j z a (by omega) hz hzd ha hb
              exact ⟨y, List.mem_append.2 (.inl hy), y1⟩
          · rw [List.getElem?_append_left (by omega)] at hz
            by_cases e : j = i
            · subst e
              rw [hx] at hz
              simp only [Option.some.injEq] at hz
              subst hz
              exact hg
            · exact hno j z (by omega) hz
theorem ask_facts {w : TWork} {m g : List Int} {lim : Int} (h : askB w m g lim = true) : ValidF w m ∧ g.length = w.objects.length ∧ 0 ≤ lim ∧ lim ≤ 16 := by
  simp only [askB, Bool.and_eq_true, decide_eq_true_eq] at h
  exact ⟨valid_iff.1 h.1.1.1, h.1.1.2, h.1.2, h.2⟩
theorem solve_sound {w : TWork} {m g : List Int} {lim : Int} {bs : List TBan} {p : List TAct} (h : solveR w m g lim bs = some p) : askB w m g lim = true ∧ okP w bs m p ∧ meets (runP m p) g = true ∧ (p.length : Int) ≤ lim := by
  rw [solveR] at h
  split at h
  · rename_i ha
    obtain ⟨h1, _, h3, _⟩ := ask_facts ha
    exact ⟨ha, run_sound _ _ _ _ (turn_root h1 h3) h⟩
  · cases h
theorem solve_len {w : TWork} {m g : List Int} {lim : Int} {bs : List TBan} : ((solveR w m g lim bs).getD []).length ≤ 16 := by
  cases h : solveR w m g lim bs with
  | none => simp
  | some p =>
    obtain ⟨h1, _, _, h4⟩ := solve_sound h
    have := ask_facts h1
    simp only [Option.getD_some]
    omega
theorem solve_best {w : TWork} {m g : List Int} {lim : Int} {bs : List TBan} {q : List TAct} (ha : askB w m g lim = true) (hq : okP w bs m q) (hql : (q.length : Int) ≤ lim) (hqg : meets (runP m q) g = true) : ∃ p, solveR w m g lim bs = some p ∧ p.length ≤ q.length := by
  obtain ⟨h1, _, h3, _⟩ := ask_facts ha
  rw [solveR, if_pos ha]
  exact run_best hq hql hqg _ _ _ (turn_root h1 h3) (fun j x a hj => by omega) (fun j x hj => by omega) (by omega)
end Go.Proofs.Ytopcjmipldkijaa

/- law38.solves, law38.goal, law38.bans. -/
namespace Go.Proofs.Ytopcjmipldkijaa
open Eng
set_option maxRecDepth 10000
attribute [local irreducible] FnOk loopW idxF retX arrF findF

theorem law38_solves (w : TWork) (m g : List Int) (lim : Int) (bs : List TBan) (hm : mild w) (hg : g.length ≤ 4611686018427387904) (hb : bs.length ≤ 4611686018427387904) (hbm : ∀ b ∈ bs, b.mode.length ≤ 4611686018427387904) : FnOk Try.prog F.law38_solves [Wk w, Md m, Li g, I lim, .one (.dv (dBs bs))] [] 0 (Bo true) [] 0 := by
  have hsl := solve_len (w := w) (m := m) (g := g) (lim := lim) (bs := bs)
  have h1 := task_Solve w m g lim bs hm hg hb
  have h2 := ref_SolveTask w m g lim bs hm hg hb hbm
  generalize solveR w m g lim bs = r at *
  cases r with
  | none =>
    refine fnOk tab mix G.law38_solves rfl rfl (by kernel_rfl) rfl rfl ?_
    (conv => whnf)
    refine call_i (h1) ?_
    (conv => whnf)
    refine call_i (h2) ?_
    (conv => whnf)
    refine call_i (mk_Same_act [] [] (by decide) (by decide)) ?_
    (conv => whnf)
    (conv => whnf)
    refine ret0 ?_
    exact ret_b (by simp) rfl
  | some p =>
    simp only [Option.getD_some] at hsl
    refine fnOk tab mix G.law38_solves rfl rfl (by kernel_rfl) rfl rfl ?_
    (conv => whnf)
    refine call_i (h1) ?_
    (conv => whnf)
    refine call_i (h2) ?_
    (conv => whnf)
    refine call_i (mk_Same_act p p (by omega) (by omega)) ?_
    (conv => whnf)
    (conv => whnf)
    refine ret0 ?_
    exact ret_b (by simp) rfl
def goE (l : List Int) (P H k : Nat) : Int := if nxt l k (P + H + 1) - H = P then -1048576 else nxt l k (P + H + 1) - H
def mkGoal (w : TWork) (l : List Int) : List Int := (List.range w.objects.length).map (goE l w.places.length w.hands.length)
theorem mkGoal_len (w : TWork) (l : List Int) : (mkGoal w l).length = w.objects.length := by simp [mkGoal]
theorem law38_goal (w : TWork) (l : List Int) (hl : l.length ≤ 4611686018427387904) (h1 : w.places.length ≤ 1000) (h2 : w.hands.length ≤ 1000) (h3 : w.objects.length ≤ 1000) : FnOk Try.prog F.law38_goal [Wk w, Li l] [] 0 (Li (mkGoal w l)) [] 0 := by
  refine fnOk tab mix G.law38_goal rfl rfl (by kernel_rfl) rfl rfl ?_
  (conv => whnf)
  refine call_i (mk_From l) ?_
  (conv => whnf)
  refine loop_intro (fun k : Nat => ⟨[(2, .one (.vptr 0 0)), (5, .one (.vptr 1 0)), (6, .one (.row 2)), (7, I k)], [(0, bWk w), (1, SrcJ l k), (2, .rows Y.int 1 (((List.range k).map (goE l w.places.length w.hands.length)).map encI))], 3⟩) (fun k => k ≤ w.objects.length) (fun k => w.objects.length - k) [.own 6 Y.int 1] 0 [] (Nat.zero_le _) ⟨⟨rfl, rfl, rfl, rfl, trivial⟩, ⟨rfl, rfl, rfl, trivial⟩⟩ ?_
  rintro k hk
  have hkk : IntKind.i64.wrap ((k : Int) + 1) = ((k + 1 : Nat) : Int) := by rw [w64] <;> omega
  have e1 : IntKind.i64.wrap (((w.places.map encV).length : Int) + (w.hands.map encH).length) = (w.places.length : Int) + w.hands.length := by simp only [List.length_map]; rw [w64] <;> omega
  have e2 : IntKind.i64.wrap ((w.places.length : Int) + w.hands.length + 1) = (w.places.length : Int) + w.hands.length + 1 := by rw [w64] <;> omega
  have m0 := nxt_bd (l := l) (j := k) (m := (w.places.length : Int) + w.hands.length + 1) (by omega)
  have e3 : IntKind.i64.wrap (nxt l k ((w.places.length : Int) + w.hands.length + 1) - ((w.hands.map encH).length : Int)) = nxt l k ((w.places.length : Int) + w.hands.length + 1) - w.hands.length := by simp only [List.length_map]; rw [w64] <;> omega
  (conv => whnf)
  refine ask_m (fun h => ?_) (fun h => ?_)
  · have hlt : k < w.objects.length := by have := of_decide_eq_true h; simp only [List.length_map] at this; omega
    (conv => whnf)
    rw [e1, e2]
    refine call_i (mk_Next l k ((w.places.length : Int) + w.hands.length + 1) (by omega) (by omega) hl) ?_
    (conv => whnf)
    rw [e3]
    refine ask_m (fun h4 => ?_) (fun h4 => ?_)
    · have h4 : nxt l k ((w.places.length : Int) + w.hands.length + 1) - w.hands.length = w.places.length := by simpa using h4
      (conv => whnf)
      refine ⟨⟨by simp; omega, by simp; omega⟩, ?_⟩
      (conv => whnf)
      exact ⟨k + 1, [(2, 4)], hlt, by omega, ⟨⟨rfl, rfl, rfl, eqI hkk, trivial⟩, ⟨rfl, rfl, rows_eq (by rw [range_enc, goE, if_pos h4]; rfl), trivial⟩⟩⟩
    · have h4 : ¬ nxt l k ((w.places.length : Int) + w.hands.length + 1) - w.hands.length = w.places.length := by simpa using h4
      (conv => whnf)
      refine ⟨⟨by simp; omega, by simp; omega⟩, ?_⟩
      (conv => whnf)
      exact ⟨k + 1, [(2, 4)], hlt, by omega, ⟨⟨rfl, rfl, rfl, eqI hkk, trivial⟩, ⟨rfl, rfl, rows_eq (by rw [range_enc, goE, if_neg h4]; rfl), trivial⟩⟩⟩
  · have hk' : k = w.objects.length := by have := of_decide_eq_false h; simp only [List.length_map] at this; omega
    subst hk'
    (conv => whnf)
    refine retO [.frz 2] ?_
    (conv => whnf)
    exact ⟨[], ⟨rfl, trivial⟩, trivial⟩
def bnE (w : TWork) (l : List Int) (k : Nat) : TBan := ⟨mkMode w [nxt l (1 + 7 * k) 99, nxt l (1 + 7 * k + 1) 99, nxt l (1 + 7 * k + 2) 99, nxt l (1 + 7 * k + 3) 99], mkAct w (nxt l (1 + 7 * k + 4) 4) (nxt l (1 + 7 * k + 5) 9) (nxt l (1 + 7 * k + 6) 9)⟩
def bnN (l : List Int) : Nat := (nxt l 0 4).toNat
def mkBans (w : TWork) (l : List Int) : List TBan := (List.range (bnN l)).map (bnE w l)
theorem mkBans_len (w : TWork) (l : List Int) : (mkBans w l).length ≤ 3 := by
  have := nxt_bd (l := l) (j := 0) (m := 4) (by omega)
  simp only [mkBans, List.length_map, List.length_range, bnN]
  omega
theorem mkBans_modes (w : TWork) (l : List Int) (ho : w.objects.length ≤ 1000) : ∀ b ∈ mkBans w l, b.mode.length ≤ 1000 := by
  intro b hb
  obtain ⟨k, _, rfl⟩ := List.mem_map.1 hb
  simp only [bnE, mkMode, mdTo_len]
  exact ho
theorem law38_bans (w : TWork) (l : List Int) (hl : l.length ≤ 4611686018427387904) (h1 : w.places.length ≤ 1000) (h2 : w.hands.length ≤ 1000) (hN : 0 < w.places.length + w.hands.length) (ho : w.objects.length ≤ w.places.length + w.hands.length) : FnOk Try.prog F.law38_bans [Wk w, Li l] [] 0 (.one (.dv (dBs (mkBans w l)))) [] 0 := by
  have n0 := nxt_bd (l := l) (j := 0) (m := 4) (by omega)
  have en : nxt l 0 4 = (bnN l : Nat) := by unfold bnN; omega
  have hn3 : bnN l ≤ 3 := by unfold bnN; omega
  refine fnOk tab mix G.law38_bans rfl rfl (by kernel_rfl) rfl rfl ?_
  (conv => whnf)
  refine call_i (mk_From l) ?_
  (conv => whnf)
  refine call_i (mk_Next l 0 4 (by omega) (by omega) hl) ?_
  (conv => whnf)
  rw [en, mkBans]
  generalize bnN l = n at *
  refine loop_intro (fun k : Nat => ⟨[(2, .one (.vptr 0 0)), (5, .one (.vptr 1 0)), (6, .one (.row 2)), (7, I ((n : Int) - k))], [(0, bWk w), (1, SrcJ l (1 + 7 * k)), (2, .rows Y.Ban 4 (((List.range k).map (bnE w l)).map encB))], 3⟩) (fun k => k ≤ n) (fun k => n - k) [.own 6 Y.Ban 4] 0 [] (Nat.zero_le _) ⟨⟨rfl, rfl, rfl, eqI (by simp), trivial⟩, ⟨rfl, rfl, rfl, trivial⟩⟩ ?_
  rintro k hk
  have hkk : IntKind.i64.wrap ((n : Int) - k - 1) = (n : Int) - ((k + 1 : Nat) : Int) := by rw [w64] <;> omega
  (conv => whnf)
  refine ask_m (fun h => ?_) (fun h => ?_)
  · have hlt : k < n := by have := of_decide_eq_true h; omega
    (conv => whnf)
    refine call_i (mk_Next l (1 + 7 * k) 99 (by omega) (by omega) hl) ?_
    (conv => whnf)
    refine call_i (mk_Next l (1 + 7 * k + 1) 99 (by omega) (by omega) hl) ?_
    (conv => whnf)
    refine call_i (mk_Next l (1 + 7 * k + 2) 99 (by omega) (by omega) hl) ?_
    (conv => whnf)
    refine call_i (mk_Next l (1 + 7 * k + 3) 99 (by omega) (by omega) hl) ?_
    (conv => whnf)
    refine call_i (mk_Mode w [nxt l (1 + 7 * k) 99, nxt l (1 + 7 * k + 1) 99, nxt l (1 + 7 * k + 2) 99, nxt l (1 + 7 * k + 3) 99] (by simp) h1 h2 hN ho) ?_
    (conv => whnf)
    refine call_i (mk_Next l (1 + 7 * k + 4) 4 (by omega) (by omega) hl) ?_
    (conv => whnf)
    refine call_i (mk_Next l (1 + 7 * k + 5) 9 (by omega) (by omega) hl) ?_
    (conv => whnf)
    refine call_i (mk_Next l (1 + 7 * k + 6) 9 (by omega) (by omega) hl) ?_
    (conv => whnf)
    refine call_i (law38_action w (nxt l (1 + 7 * k + 4) 4) (nxt l (1 + 7 * k + 5) 9) (nxt l (1 + 7 * k + 6) 9) h2 h1) ?_
    (conv => whnf)
    refine ⟨⟨by simp; omega, by simp; omega⟩, ?_⟩
    (conv => whnf)
    exact ⟨k + 1, [(2, 6)], hlt, by omega, ⟨⟨rfl, rfl, rfl, eqI hkk, trivial⟩, ⟨rfl, rfl, rows_eq (by rw [range_enc]; rfl), trivial⟩⟩⟩
  · have hk' : k = n := by have := of_decide_eq_false h; omega
    subst hk'
    (conv => whnf)
    refine retO [.frz 2] ?_
    (conv => whnf)
    exact ⟨[], ⟨rfl, trivial⟩, trivial⟩
end Go.Proofs.Ytopcjmipldkijaa

/- Data of the types of robots and scenes. -/
namespace Go.Proofs.Ytopcjmipldkijaa
open Eng
set_option maxRecDepth 10000

theorem tz_i64 {n : Nat} {ds : List DV} (h : Typed T (n + 1) Y.int64 ds) : ∃ a, ds = [.int .i64 a] := by
  obtain ⟨a, h, _⟩ := h
  exact ⟨a, h⟩
theorem tz_int {n : Nat} {ds : List DV} (h : Typed T (n + 1) Y.int ds) : ∃ a, ds = [.int .i64 a] := by
  obtain ⟨a, h, _⟩ := h
  exact ⟨a, h⟩
theorem tz_str {n : Nat} {ds : List DV} (h : Typed T (n + 1) Y.string ds) : ∃ a, ds = [.str a] := by
  obtain ⟨a, h, _⟩ := h
  exact ⟨a, h⟩
theorem tz_Vec {n : Nat} {ds : List DV} (h : Typed T (n + 2) Y.Vec ds) : ∃ v, ds = encV v := by
  obtain ⟨ps, h1, h2, rfl⟩ := h
  match ps, h1 with
  | [a, b, c], _ =>
    obtain ⟨x, rfl⟩ := tz_i64 (h2 a (by simp))
    obtain ⟨y, rfl⟩ := tz_i64 (h2 b (by simp))
    obtain ⟨z, rfl⟩ := tz_i64 (h2 c (by simp))
    exact ⟨⟨x, y, z⟩, rfl⟩
theorem tz_Joint {n : Nat} {ds : List DV} (h : Typed T (n + 3) Y.Joint ds) : ∃ j, ds = encJ j := by
  obtain ⟨ps, h, rfl⟩ := h
  replace h := all2_cons h
  obtain ⟨d, q, rfl, h1, h⟩ := h
  obtain ⟨a1, rfl⟩ := tz_str h1
  replace h := all2_cons h
  obtain ⟨d, q, rfl, h1, h⟩ := h
  obtain ⟨a2, rfl⟩ := tz_int h1
  replace h := all2_cons h
  obtain ⟨d, q, rfl, h1, h⟩ := h
  obtain ⟨a3, rfl⟩ := tz_int h1
  replace h := all2_cons h
  obtain ⟨d, q, rfl, h1, h⟩ := h
  obtain ⟨a4, rfl⟩ := tz_Vec h1
  replace h := all2_cons h
  obtain ⟨d, q, rfl, h1, h⟩ := h
  obtain ⟨a5, rfl⟩ := tz_i64 h1
  replace h := all2_cons h
  obtain ⟨d, q, rfl, h1, h⟩ := h
  obtain ⟨a6, rfl⟩ := tz_i64 h1
  replace h := all2_cons h
  obtain ⟨d, q, rfl, h1, h⟩ := h
  obtain ⟨a7, rfl⟩ := tz_i64 h1
  replace h := all2_cons h
  obtain ⟨d, q, rfl, h1, h⟩ := h
  obtain ⟨a8, rfl⟩ := tz_i64 h1
  replace h := all2_cons h
  obtain ⟨d, q, rfl, h1, h⟩ := h
  obtain ⟨a9, rfl⟩ := tz_i64 h1
  replace h := all2_cons h
  obtain ⟨d, q, rfl, h1, h⟩ := h
  obtain ⟨a10, rfl⟩ := tz_i64 h1
  obtain rfl := all2_nil h
  exact ⟨⟨a1, a2, a3, a4, a5, a6, a7, a8, a9, a10⟩, rfl⟩
theorem tz_Mass {n : Nat} {ds : List DV} (h : Typed T (n + 3) Y.Mass ds) : ∃ j, ds = encM j := by
  obtain ⟨ps, h, rfl⟩ := h
  replace h := all2_cons h
  obtain ⟨d, q, rfl, h1, h⟩ := h
  obtain ⟨a1, rfl⟩ := tz_int h1
  replace h := all2_cons h
  obtain ⟨d, q, rfl, h1, h⟩ := h
  obtain ⟨a2, rfl⟩ := tz_i64 h1
  replace h := all2_cons h
  obtain ⟨d, q, rfl, h1, h⟩ := h
  obtain ⟨a3, rfl⟩ := tz_Vec h1
  obtain rfl := all2_nil h
  exact ⟨⟨a1, a2, a3⟩, rfl⟩
theorem tz_Skip {n : Nat} {ds : List DV} (h : Typed T (n + 2) Y.Skip ds) : ∃ j, ds = encSk j := by
  obtain ⟨ps, h, rfl⟩ := h
  replace h := all2_cons h
  obtain ⟨d, q, rfl, h1, h⟩ := h
  obtain ⟨a1, rfl⟩ := tz_int h1
  replace h := all2_cons h
  obtain ⟨d, q, rfl, h1, h⟩ := h
  obtain ⟨a2, rfl⟩ := tz_int h1
  obtain rfl := all2_nil h
  exact ⟨⟨a1, a2⟩, rfl⟩
theorem tz_sVec {n : Nat} {ds : List DV} (h : Typed T (n + 3) Y.s_Vec ds) : ∃ l : List Vec, ds = [dVs l] ∧ l.length ≤ 140737488351232 := by
  obtain ⟨rs, h1, h2, _, h3⟩ := h
  obtain ⟨l, rfl⟩ := map_of (enc := encV) fun r hr => tz_Vec (h3 r hr)
  refine ⟨l, h1, ?_⟩
  have : l.length * 24 ≤ reachBytes := by simpa using h2
  unfold reachBytes at this; omega
theorem tz_Shape {n : Nat} {ds : List DV} (h : Typed T (n + 4) Y.Shape ds) : ∃ j, ds = encSh j ∧ j.points.length ≤ 140737488351232 := by
  obtain ⟨ps, h, rfl⟩ := h
  replace h := all2_cons h
  obtain ⟨d, q, rfl, h1, h⟩ := h
  obtain ⟨a1, rfl⟩ := tz_int h1
  replace h := all2_cons h
  obtain ⟨d, q, rfl, h1, h⟩ := h
  obtain ⟨a2, rfl⟩ := tz_i64 h1
  replace h := all2_cons h
  obtain ⟨d, q, rfl, h1, h⟩ := h
  obtain ⟨a3, rfl, h3⟩ := tz_sVec h1
  obtain rfl := all2_nil h
  exact ⟨⟨a1, a2, a3⟩, rfl, h3⟩
theorem map_of' {α : Type} {enc : α → List DV} {Q : α → Prop} : ∀ {rs : List (List DV)}, (∀ r ∈ rs, ∃ a, r = enc a ∧ Q a) → ∃ xs : List α, rs = xs.map enc ∧ ∀ x ∈ xs, Q x
  | [], _ => ⟨[], rfl, by simp⟩
  | r :: rs, h => by
    obtain ⟨a, ha, qa⟩ := h r (by simp)
    obtain ⟨xs, hx, qx⟩ := map_of' (rs := rs) fun r hr => h r (by simp [hr])
    exact ⟨a :: xs, by rw [ha, hx]; rfl, fun x hx' => by
      rcases List.mem_cons.1 hx' with rfl | hx'
      · exact qa
      · exact qx x hx'⟩
theorem tz_Robot {n : Nat} {ds : List DV} (h : Typed T (n + 5) Y.Robot ds) : ∃ r : Robot, ds = [dJs r.joints, dMs r.masses] ∧ r.joints.length ≤ 140737488351232 ∧ r.masses.length ≤ 140737488351232 := by
  obtain ⟨ps, h, rfl⟩ := h
  replace h := all2_cons h
  obtain ⟨d, q, rfl, h1, h⟩ := h
  obtain ⟨rs, e1, b1, _, g1⟩ := h1
  obtain ⟨js, rfl⟩ := map_of (enc := encJ) fun r hr => tz_Joint (g1 r hr)
  replace h := all2_cons h
  obtain ⟨d2, q, rfl, h2, h⟩ := h
  obtain ⟨rs, e2, b2, _, g2⟩ := h2
  obtain ⟨ms, rfl⟩ := map_of (enc := encM) fun r hr => tz_Mass (g2 r hr)
  obtain rfl := all2_nil h
  refine ⟨⟨js, ms⟩, by rw [e1, e2]; rfl, ?_, ?_⟩
  · have : js.length * 104 ≤ reachBytes := by simpa using b1
    unfold reachBytes at this; simp only; omega
  · have : ms.length * 40 ≤ reachBytes := by simpa using b2
    unfold reachBytes at this; simp only; omega
theorem tyB_Robot {n : Nat} {ds : List DV} (h : Typed T (n + 5) Y.Robot ds) : ∃ r : Robot, ds = [dJs r.joints, dMs r.masses] ∧ (r.joints.length ≤ 140737488351232 ∧ r.masses.length ≤ 140737488351232) := tz_Robot h
theorem tyB_Scene {n : Nat} {ds : List DV} (h : Typed T (n + 6) Y.Scene ds) : ∃ s : Scene, ds = [dJs s.robot.joints, dMs s.robot.masses, dShs s.shapes, dSks s.skips] ∧ small s := by
  obtain ⟨ps, h, rfl⟩ := h
  replace h := all2_cons h
  obtain ⟨d, q, rfl, h1, h⟩ := h
  obtain ⟨r, rfl, r1, r2⟩ := tz_Robot h1
  replace h := all2_cons h
  obtain ⟨d, q, rfl, h1, h⟩ := h
  obtain ⟨rs, e1, b1, _, g1⟩ := h1
  obtain ⟨shs, rfl, gs⟩ := map_of' (enc := encSh) (Q := fun x => x.points.length ≤ 140737488351232) fun r hr => tz_Shape (g1 r hr)
  replace h := all2_cons h
  obtain ⟨d2, q, rfl, h2, h⟩ := h
  obtain ⟨rs, e2, b2, _, g2⟩ := h2
  obtain ⟨sks, rfl⟩ := map_of (enc := encSk) fun r hr => tz_Skip (g2 r hr)
  obtain rfl := all2_nil h
  refine ⟨⟨r, shs, sks⟩, by rw [e1, e2]; rfl, ?_⟩
  have a1 : shs.length * 40 ≤ reachBytes := by simpa using b1
  have a2 : sks.length * 16 ≤ reachBytes := by simpa using b2
  unfold reachBytes at a1 a2
  exact ⟨by simp only; omega, by simp only; omega, by simp only; omega, by simp only; omega, fun x hx => by have := gs x hx; omega⟩
end Go.Proofs.Ytopcjmipldkijaa

/- law38: data of the laws' types. -/
namespace Go.Proofs.Ytopcjmipldkijaa
open Eng
set_option maxRecDepth 10000

def looseW (w : TWork) : Prop := small w.scene ∧ (∀ o ∈ w.objects, o.shapes.length ≤ 17592186044416 ∧ ∀ s ∈ o.shapes, s.points.length ≤ 17592186044416) ∧ ∀ g ∈ w.grips, g.at_.length ≤ 4611686018427387904
theorem tw_sVec {n : Nat} {ds : List DV} (h : Typed T (n + 3) Y.s_Vec ds) : ∃ l : List Vec, ds = [dVs l] ∧ l.length ≤ 17592186044416 := by
  obtain ⟨rs, h1, h2, _, h3⟩ := h
  obtain ⟨l, rfl⟩ := map_of (enc := encV) fun r hr => tz_Vec (h3 r hr)
  refine ⟨l, h1, ?_⟩
  have : l.length * 24 ≤ reachBytes := by simpa using h2
  unfold reachBytes at this; omega
theorem tw_Shape {n : Nat} {ds : List DV} (h : Typed T (n + 4) Y.Shape ds) : ∃ j, ds = encSh j ∧ j.points.length ≤ 17592186044416 := by
  obtain ⟨ps, h, rfl⟩ := h
  replace h := all2_cons h
  obtain ⟨d, q, rfl, h1, h⟩ := h
  obtain ⟨a1, rfl⟩ := tz_int h1
  replace h := all2_cons h
  obtain ⟨d, q, rfl, h1, h⟩ := h
  obtain ⟨a2, rfl⟩ := tz_i64 h1
  replace h := all2_cons h
  obtain ⟨d, q, rfl, h1, h⟩ := h
  obtain ⟨a3, rfl, h3⟩ := tw_sVec h1
  obtain rfl := all2_nil h
  exact ⟨⟨a1, a2, a3⟩, rfl, h3⟩
theorem tw_sShape {n : Nat} {ds : List DV} (h : Typed T (n + 5) Y.s_Shape ds) : ∃ l : List Shape, ds = [dShs l] ∧ l.length ≤ 17592186044416 ∧ ∀ s ∈ l, s.points.length ≤ 17592186044416 := by
  obtain ⟨rs, h1, h2, _, h3⟩ := h
  obtain ⟨l, rfl, hl⟩ := map_of' (enc := encSh) (Q := fun x => x.points.length ≤ 17592186044416) fun r hr => tw_Shape (h3 r hr)
  refine ⟨l, h1, ?_, hl⟩
  have : l.length * 40 ≤ reachBytes := by simpa using h2
  unfold reachBytes at this; omega
theorem tw_Object {n : Nat} {ds : List DV} (h : Typed T (n + 6) Y.Object ds) : ∃ o, ds = encO o ∧ (o.shapes.length ≤ 17592186044416 ∧ ∀ s ∈ o.shapes, s.points.length ≤ 17592186044416) := by
  obtain ⟨ps, h, rfl⟩ := h
  replace h := all2_cons h
  obtain ⟨d, q, rfl, h1, h⟩ := h
  obtain ⟨a1, rfl, _⟩ := h1
  replace h := all2_cons h
  obtain ⟨d, q, rfl, h1, h⟩ := h
  obtain ⟨a2, rfl, h2⟩ := tw_sShape (n := n) h1
  obtain rfl := all2_nil h
  exact ⟨⟨a1, a2⟩, rfl, h2⟩
theorem tw_Hand {n : Nat} {ds : List DV} (h : Typed T (n + 4) Y.Hand ds) : ∃ o, ds = encH o := by
  obtain ⟨ps, h, rfl⟩ := h
  replace h := all2_cons h
  obtain ⟨d, q, rfl, h1, h⟩ := h
  obtain ⟨a1, rfl⟩ := tz_int h1
  replace h := all2_cons h
  obtain ⟨d, q, rfl, h1, h⟩ := h
  obtain ⟨a2, rfl⟩ := tz_Vec h1
  obtain rfl := all2_nil h
  exact ⟨⟨a1, a2⟩, rfl⟩
theorem tw_Grip {n : Nat} {ds : List DV} (h : Typed T (n + 3) Y.Grip ds) : ∃ o, ds = encG o ∧ o.at_.length ≤ 4611686018427387904 := by
  obtain ⟨ps, h, rfl⟩ := h
  replace h := all2_cons h
  obtain ⟨d, q, rfl, h1, h⟩ := h
  obtain ⟨a1, rfl⟩ := tz_int h1
  replace h := all2_cons h
  obtain ⟨d, q, rfl, h1, h⟩ := h
  obtain ⟨a2, rfl⟩ := tz_int h1
  replace h := all2_cons h
  obtain ⟨d, q, rfl, h1, h⟩ := h
  obtain ⟨a3, rfl, h3⟩ := tyB_s_int (n := n) h1
  obtain rfl := all2_nil h
  exact ⟨⟨a1, a2, a3⟩, rfl, by simp only; omega⟩
theorem tyB_Mode {n : Nat} {ds : List DV} (h : Typed T (n + 3) Y.Mode ds) : ∃ m : List Int, ds = [.lst 1 (m.map encI)] ∧ m.length ≤ 17592186043904 := by
  obtain ⟨ps, h, rfl⟩ := h
  replace h := all2_cons h
  obtain ⟨d, q, rfl, h1, h⟩ := h
  obtain ⟨a1, rfl, b1⟩ := tyB_s_int (n := n) h1
  obtain rfl := all2_nil h
  exact ⟨a1, rfl, b1⟩
theorem tyB_Action {n : Nat} {ds : List DV} (h : Typed T (n + 2) Y.Action ds) : ∃ a : TAct, ds = encAc a ∧ True := by
  obtain ⟨ps, h, rfl⟩ := h
  replace h := all2_cons h
  obtain ⟨d, q, rfl, h1, h⟩ := h
  obtain ⟨a1, rfl⟩ := tz_int h1
  replace h := all2_cons h
  obtain ⟨d, q, rfl, h1, h⟩ := h
  obtain ⟨a2, rfl⟩ := tz_int h1
  replace h := all2_cons h
  obtain ⟨d, q, rfl, h1, h⟩ := h
  obtain ⟨a3, rfl⟩ := tz_int h1
  obtain rfl := all2_nil h
  exact ⟨⟨a1, a2, a3⟩, rfl, trivial⟩
theorem tw_Ban {n : Nat} {ds : List DV} (h : Typed T (n + 4) Y.Ban ds) : ∃ b, ds = encB b ∧ b.mode.length ≤ 17592186043904 := by
  obtain ⟨ps, h, rfl⟩ := h
  replace h := all2_cons h
  obtain ⟨d, q, rfl, h1, h⟩ := h
  obtain ⟨a1, rfl, b1⟩ := tyB_Mode (n := n) h1
  replace h := all2_cons h
  obtain ⟨d, q, rfl, h1, h⟩ := h
  obtain ⟨a2, rfl, _⟩ := tyB_Action (n := n + 1) h1
  obtain rfl := all2_nil h
  exact ⟨⟨a1, a2⟩, rfl, b1⟩
theorem tyB_s_Ban {n : Nat} {ds : List DV} (h : Typed T (n + 5) Y.s_Ban ds) : ∃ l : List TBan, ds = [dBs l] ∧ (l.length ≤ 17592186044416 ∧ ∀ b ∈ l, b.mode.length ≤ 17592186043904) := by
  obtain ⟨rs, h1, h2, _, h3⟩ := h
  obtain ⟨l, rfl, hl⟩ := map_of' (enc := encB) (Q := fun x => x.mode.length ≤ 17592186043904) fun r hr => tw_Ban (n := n) (h3 r hr)
  refine ⟨l, h1, ?_, hl⟩
  have : l.length * 48 ≤ reachBytes := by simpa using h2
  unfold reachBytes at this; omega
theorem tyB_Workspace {n : Nat} {ds : List DV} (h : Typed T (n + 8) Y.Workspace ds) : ∃ w : TWork, ds = [dJs w.scene.robot.joints, dMs w.scene.robot.masses, dShs w.scene.shapes, dSks w.scene.skips, dOs w.objects, dVs w.places, dHs w.hands, dGs w.grips, .int .i64 w.slack] ∧ looseW w := by
  obtain ⟨ps, h, rfl⟩ := h
  replace h := all2_cons h
  obtain ⟨d, q, rfl, h1, h⟩ := h
  obtain ⟨s, rfl, hs⟩ := tyB_Scene (n := n + 1) h1
  replace h := all2_cons h
  obtain ⟨d, q, rfl, h1, h⟩ := h
  obtain ⟨rs, e1, _, _, g1⟩ := h1
  obtain ⟨os, rfl, ho⟩ := map_of' (enc := encO) (Q := fun o => o.shapes.length ≤ 17592186044416 ∧ ∀ s ∈ o.shapes, s.points.length ≤ 17592186044416) fun r hr => tw_Object (n := n) (g1 r hr)
  replace h := all2_cons h
  obtain ⟨d2, q, rfl, h1, h⟩ := h
  obtain ⟨vs, rfl, _⟩ := tw_sVec (n := n + 4) h1
  replace h := all2_cons h
  obtain ⟨d3, q, rfl, h1, h⟩ := h
  obtain ⟨rs, e3, _, _, g3⟩ := h1
  obtain ⟨hs', rfl⟩ := map_of (enc := encH) fun r hr => tw_Hand (n := n + 2) (g3 r hr)
  replace h := all2_cons h
  obtain ⟨d4, q, rfl, h1, h⟩ := h
  obtain ⟨rs, e4, _, _, g4⟩ := h1
  obtain ⟨gs, rfl, hg⟩ := map_of' (enc := encG) (Q := fun g => g.at_.length ≤ 4611686018427387904) fun r hr => tw_Grip (n := n + 3) (g4 r hr)
  replace h := all2_cons h
  obtain ⟨d5, q, rfl, h1, h⟩ := h
  obtain ⟨sl, rfl⟩ := tz_i64 h1
  obtain rfl := all2_nil h
  exact ⟨⟨s, os, vs, hs', gs, sl⟩, by rw [e1, e3, e4]; rfl, hs, ho, hg⟩
end Go.Proofs.Ytopcjmipldkijaa

/- law34.Altered, law38.actions. -/
namespace Go.Proofs.Ytopcjmipldkijaa
open Eng
set_option maxRecDepth 10000
attribute [local irreducible] FnOk loopW idxF retX arrF findF

theorem applyM_len (w : TWork) (m : List Int) (a : TAct) : (applyM w m a).length ≤ m.length := by
  rw [applyM]
  split
  · rw [setAt_len]; exact Nat.le_refl _
  · exact Nat.zero_le _
theorem dec_self {α : Type} [DecidableEq α] (x : α) : decide (x = x) = true := decide_eq_true rfl
theorem law38_actions (w : TWork) (m : List Int) (a : TAct) (g : List Int) (hm : mild w) (hml : m.length ≤ 17592186043904) (hg : g.length ≤ 17592186043904) : FnOk Try.prog F.law38_actions [Wk w, Md m, Ac a, Li g] [] 0 (Bo true) [] 0 := by
  have h1 := task_Apply w m a hm
  have h2 := ref_Apply w m a hm (by omega)
  have h3 := task_Actions w m hm
  have h4 := ref_Actions w m hm
  have h5 := task_Reached w m g hm (by omega)
  have h6 := ref_Reached w m g hm (by omega)
  have hl := applyM_len w m a
  have hal := acts_len w m
  generalize applyM w m a = y at *
  generalize applyB w m a = o at *
  generalize actsOf w m = al at *
  generalize reachedB w m g = r at *
  cases o
  all_goals
    cases r
    all_goals
      refine fnOk tab mix G.law38_actions rfl rfl (by kernel_rfl) rfl rfl ?_
      (conv => whnf)
      refine call_i (h1) ?_
      (conv => whnf)
      refine call_i (h2) ?_
      (conv => whnf)
      refine call_i (mk_Same_int y y (by omega) (by omega)) ?_
      (conv => whnf)
      rw [dec_self y]
      (conv => whnf)
      refine call_i (h3) ?_
      (conv => whnf)
      refine call_i (h4) ?_
      (conv => whnf)
      refine call_i (mk_Same_act al al (by omega) (by omega)) ?_
      (conv => whnf)
      rw [dec_self al]
      (conv => whnf)
      refine call_i (h5) ?_
      (conv => whnf)
      refine call_i (h6) ?_
      (conv => whnf)
      (conv => whnf)
      refine ret0 ?_
      exact ret_b rfl rfl
end Go.Proofs.Ytopcjmipldkijaa
