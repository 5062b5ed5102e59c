/- From code to a function's contract. -/
import Derived.Test.YthdbdokhncaijaaGreatEngE
namespace Eng
open Go Go.RowKit

def enum : Nat → List SV → List (Nat × SV)
  | _, [] => []
  | i, v :: vs => (i, v) :: enum (i + 1) vs

def resW (T : List (Nat × TI)) (l : List (Nat × SV)) (m : List (Nat × Box)) : List ResultVar → (List SV → Prop) → Prop
  | [], k => k []
  | .tmp t :: rs, k => resW T l m rs fun vs => k (lk l t :: vs)
  | .cell a t :: rs, k => match lkt T t with
    | none => False
    | some ti => loadW m ti (lk l a) fun v _ => resW T l m rs fun vs => k (v :: vs)
def tupC : SV → Option (Bool × List CV)
  | .one c => some (false, [c])
  | .agg cs => some (true, cs)
  | _ => none
def tupW : List SV → (List (Bool × List CV) → Prop) → Prop
  | [], k => k []
  | v :: vs, k => match tupC v with
    | some t => tupW vs fun ts => k (t :: ts)
    | none => False
def oneOf (vs : List SV) (k : SV → Prop) : Prop :=
  match vs with
  | [v] => v.force k
  | vs => tupW vs fun ts => k (.tup ts)
/-- nil slices may turn into rows before the results are read -/
def retX (T : List (Nat × TI)) (np : Nat) (rs : List ResultVar) (sv : SV) (mR : List (Nat × Box)) (nR : Nat) (l : List (Nat × SV)) (m : List (Nat × Box)) (n : Nat) : Prop :=
  ∃ ns, ownW ns l m n fun l m _ => resW T l m rs fun vs => oneOf vs fun v => ∃ ρ, le np ρ [(0, v)] m ⟨[(0, sv)], mR, nR⟩
theorem ret0 {T : List (Nat × TI)} {np : Nat} {rs : List ResultVar} {sv : SV} {mR : List (Nat × Box)} {nR : Nat} {l : List (Nat × SV)} {m : List (Nat × Box)} {n : Nat}
    (h : resW T l m rs fun vs => oneOf vs fun v => ∃ ρ, le np ρ [(0, v)] m ⟨[(0, sv)], mR, nR⟩) : retX T np rs sv mR nR l m n := ⟨[], h⟩
theorem retO {T : List (Nat × TI)} {np : Nat} {rs : List ResultVar} {sv : SV} {mR : List (Nat × Box)} {nR : Nat} {l : List (Nat × SV)} {m : List (Nat × Box)} {n : Nat} (ns : List Gh)
    (h : ownW ns l m n fun l m _ => resW T l m rs fun vs => oneOf vs fun v => ∃ ρ, le np ρ [(0, v)] m ⟨[(0, sv)], mR, nR⟩) : retX T np rs sv mR nR l m n := ⟨ns, h⟩
/-- the function returns what is claimed -/
def retW (T : List (Nat × TI)) (np : Nat) (rs : List ResultVar) (sv : SV) (mR : List (Nat × Box)) (nR : Nat) : KC := fun e l m n =>
  match e with
  | .ret => retX T np rs sv mR nR l m n
  | .normal => retX T np rs sv mR nR l m n
  | _ => False

theorem enum_lk {vs : List SV} {i j : Nat} : lk (enum i vs) j = if i ≤ j then (vs[j - i]?).getD .bot else .bot := by
  induction vs generalizing i with
  | nil => simp [enum, lk]
  | cons v vs ih =>
    simp only [enum]
    rw [lk_cons]
    by_cases h : i = j
    · subst h; simp
    · rw [if_neg h, ih]
      by_cases hij : i ≤ j
      · rw [if_pos hij, if_pos (by omega), show j - i = (j - (i + 1)) + 1 by omega]; simp
      · rw [if_neg hij, if_neg (by omega)]

theorem tupW_ok {vs : List SV} {k : List (Bool × List CV) → Prop} (h : tupW vs k) : ∃ ts, k ts ∧ ∀ (w : World) (N : Nat → Prop) (m : List (Nat × Box)) (β : Nat → Value) (A : Nat → Prop) (us : List Value), All2 (SRd w N m β) vs us → (∀ v ∈ vs, RefS A v) →
    All2 (fun (t : Bool × List CV) u => match t.1 with
      | true => ∃ us, u = .agg us ∧ All2 (CRd w N m β) t.2 us.toList
      | false => ∃ c, t.2 = [c] ∧ CRd w N m β c u) ts us ∧ ∀ t ∈ ts, RefCs A t.2 := by
  induction vs generalizing k with
  | nil => exact ⟨[], h, fun w N m β A us hu _ => by cases us with
    | nil => exact ⟨trivial, fun _ h => by cases h⟩
    | cons => exact hu.elim⟩
  | cons v vs ih =>
    simp only [tupW] at h
    split at h
    · rename_i t ht
      obtain ⟨ts, h1, h2⟩ := ih h
      refine ⟨_, h1, fun w N m β A us hu hr => ?_⟩
      cases us with
      | nil => exact hu.elim
      | cons u us =>
        obtain ⟨h3, h4⟩ := h2 w N m β A us hu.2 fun v hv => hr v (by simp [hv])
        have hu1 := hu.1
        have hr1 := hr v (by simp)
        cases v with
        | one c =>
          simp only [tupC, Option.some.injEq] at ht; subst ht
          refine ⟨⟨⟨c, rfl, hu1⟩, h3⟩, fun t ht => ?_⟩
          rcases List.mem_cons.1 ht with rfl | ht
          · intro c' hc'; simp at hc'; subst hc'; exact hr1
          · exact h4 t ht
        | agg cs =>
          simp only [tupC, Option.some.injEq] at ht; subst ht
          refine ⟨⟨hu1, h3⟩, fun t ht => ?_⟩
          rcases List.mem_cons.1 ht with rfl | ht
          · exact hr1
          · exact h4 t ht
        | bot => cases ht
        | tup => cases ht
    · exact h.elim

def resOne (tmps : Array Value) : ResultVar → Sem Value
  | .tmp t => pure (tmps.getD t undef)
  | .cell a t => do loadVar t (← asAddr (tmps.getD a undef))
theorem results_eq (fn : Func) (tmps : Array Value) : results fn tmps = (do let vs ← fn.results.mapM (resOne tmps); pure (if h : vs.size = 1 then vs[0] else .tuple vs)) := by
  have : (fun x : ResultVar => (match x with | .tmp t => pure (tmps.getD t undef) | .cell a t => do loadVar t (← asAddr (tmps.getD a undef)) : Sem Value)) = resOne tmps := by
    funext r; cases r <;> rfl
  unfold results
  rw [← this]
  rfl
theorem run_mapM {P : Program} {w : World} {g : ResultVar → Sem Value} : ∀ (rs : List ResultVar) (us : List Value), All2 (fun r u => (g r).run P w = .ok u w) rs us → (rs.mapM g).run P w = .ok us w := by
  intro rs
  induction rs with
  | nil => intro us h; cases us with
    | nil => rfl
    | cons => exact h.elim
  | cons r rs ih => intro us h; cases us with
    | nil => exact h.elim
    | cons u us =>
      rw [List.mapM_cons, Sem.run_bind, h.1]
      simp only [Result.andThen_ok]
      rw [Sem.run_bind, ih us h.2]
      rfl
def valOf : List Value → Value
  | [u] => u
  | us => .tuple us.toArray
theorem run_results {P : Program} {fn : Func} {tmps : Array Value} {w : World} {us : List Value} (h : All2 (fun r u => (resOne tmps r).run P w = .ok u w) fn.results.toList us) :
    (results fn tmps).run P w = .ok (valOf us) w := by
  rw [results_eq, Sem.run_bind]
  have h1 : (fn.results.mapM (resOne tmps)).run P w = .ok us.toArray w := by
    rw [Array.mapM_eq_mapM_toList, map_eq_pure_bind, Sem.run_bind, run_mapM _ _ h]
    rfl
  rw [h1]
  simp only [Result.andThen_ok]
  match us with
  | [] => rfl
  | [u] => rfl
  | _ :: _ :: _ => rfl

theorem load_run {P : Program} {w0 : World} {X : Nat → Prop} {Z : Zt} {nt : Nat} {A : Nat → Prop} {l : List (Nat × SV)} {m : List (Nat × Box)} {β : Nat → Value} {a : Act} {w : World} (hr : Rel w0 X Z nt A l m β a w) {t : Nat} {ti : TI} (hti : ti.Ok P t) {x : Operand} {K : SV → List Nat → Prop} (h : loadW m ti (ev l x) K) :
    ∃ v ft, K v ft ∧ ∃ ad u, a.eval x = .pointer (some ad) ∧ (loadVar t ad).run P w = .ok u w ∧ SRd w (Imm Z.p m β w) m β v u ∧ RefS A v := by
  have conv : ∀ (ad : Addr) (u : Value), (Instr.loadAt t (.pointer (some ad))).run P w = .ok u w → (loadVar t ad).run P w = .ok u w := fun ad u h => by simpa [Instr.loadAt, Instr.sureAddr] using h
  unfold loadW at h
  split at h
  · rename_i ds hx
    obtain ⟨v, hK, hv⟩ := ldD_ok h
    refine ⟨v, _, hK, ?_⟩
    obtain ⟨h1, _⟩ := hr.ev x
    rw [hx] at h1
    obtain ⟨ad, e, hb, hc⟩ := h1
    obtain ⟨u, h2, h3, h4⟩ := run_ld (A := A) (β := β) hti hv (w := w) (ad := ad) (fun j c hj => by
      rw [List.getElem?_map] at hj
      simp only [Option.map_eq_some_iff] at hj
      obtain ⟨d, hd, rfl⟩ := hj
      exact hc j d hd) (fun c hc => by obtain ⟨d, _, rfl⟩ := List.mem_map.1 hc; trivial)
    exact ⟨ad, u, e, conv _ _ h2, h3, h4⟩
  · rename_i b off hx
    split at h
    · rename_i tb cs hb
      obtain ⟨v, hK, hv⟩ := ldC_ok h
      refine ⟨v, _, hK, ?_⟩
      obtain ⟨h1, _⟩ := hr.ev x
      rw [hx] at h1
      obtain ⟨g, e1, e2⟩ := h1.2 (by rw [hb]; simp)
      have hbx := hr.boxes b
      rw [hb] at hbx
      obtain ⟨g', arr, e3, hg, hall⟩ := hbx
      rw [e1] at e3
      simp only [Value.pointer.injEq, Option.some.injEq, Addr.mk.injEq, and_true] at e3
      subst e3
      have hrb := (hr.refb b).1
      rw [hb] at hrb
      obtain ⟨u, h2, h3, h4⟩ := run_ld (A := A) hti hv (cell_vars hg hall off) (fun c hc => hrb c (List.mem_of_mem_drop hc))
      exact ⟨_, u, e2, conv _ _ h2, h3, h4⟩
    · exact h.elim
  · rename_i b i off hx
    split at h
    · rename_i tb sz rs hb
      obtain ⟨r, hri, h⟩ := h
      obtain ⟨v, hK, hv⟩ := ldD_ok h
      refine ⟨v, _, hK, ?_⟩
      obtain ⟨h1, _⟩ := hr.ev x
      rw [hx] at h1
      obtain ⟨g, n, c, e1, e2⟩ := h1.2 sz (by rw [hb]; rfl)
      have hbx := hr.boxes b
      rw [hb] at hbx
      obtain ⟨g', n', c', e3, hc⟩ := cell_rows hbx hri off
      rw [e1] at e3
      simp only [Value.slice.injEq, Option.some.injEq, Addr.mk.injEq, and_true] at e3
      obtain ⟨rfl, _, _⟩ := e3
      obtain ⟨u, h2, h3, h4⟩ := run_ld (A := A) hti hv hc (fun c hc => by obtain ⟨d, _, rfl⟩ := List.mem_map.1 hc; trivial)
      exact ⟨_, u, e2, conv _ _ h2, h3, h4⟩
    · rename_i tb sz rs last hb
      obtain ⟨hi, h⟩ := h
      subst hi
      obtain ⟨v, hK, hv⟩ := ldC_ok h
      refine ⟨v, _, hK, ?_⟩
      obtain ⟨h1, _⟩ := hr.ev x
      rw [hx] at h1
      obtain ⟨g, n, c, e1, e2⟩ := h1.2 sz (by rw [hb]; rfl)
      have hbx := hr.boxes b
      rw [hb] at hbx
      obtain ⟨g', n', c', e3, hc⟩ := cell_orow hbx off
      rw [e1] at e3
      simp only [Value.slice.injEq, Option.some.injEq, Addr.mk.injEq, and_true] at e3
      obtain ⟨rfl, _, _⟩ := e3
      have hrb := (hr.refb b).1
      rw [hb] at hrb
      obtain ⟨u, h2, h3, h4⟩ := run_ld (A := A) hti hv hc (fun c hc => hrb c (List.mem_of_mem_drop hc))
      exact ⟨_, u, e2, conv _ _ h2, h3, h4⟩
    · exact h.elim
  · exact h.elim


theorem resW_ok {P : Program} {T : List (Nat × TI)} (hT : TabOk P T) {w0 : World} {X : Nat → Prop} {Z : Zt} {nt : Nat} {A : Nat → Prop} {l : List (Nat × SV)} {m : List (Nat × Box)} {β : Nat → Value} {a : Act} {w : World} (hr : Rel w0 X Z nt A l m β a w) :
    ∀ (rs : List ResultVar) (k : List SV → Prop), resW T l m rs k → ∃ vs us, k vs ∧ All2 (fun r u => (resOne a.tmps r).run P w = .ok u w) rs us ∧ All2 (SRd w (Imm Z.p m β w) m β) vs us ∧ ∀ v ∈ vs, RefS A v := by
  intro rs
  induction rs with
  | nil => intro k h; exact ⟨[], [], h, trivial, trivial, fun _ h => by cases h⟩
  | cons r rs ih =>
    intro k h
    cases r with
    | tmp t =>
      obtain ⟨vs, us, h1, h2, h3, h4⟩ := ih _ h
      refine ⟨_, a.tmps.getD t undef :: us, h1, ⟨rfl, h2⟩, ⟨hr.slots t, h3⟩, fun v hv => ?_⟩
      rcases List.mem_cons.1 hv with rfl | hv
      · exact hr.refs t
      · exact h4 v hv
    | cell ad t =>
      simp only [resW] at h
      split at h
      · exact h.elim
      · rename_i ti hti
        obtain ⟨v, ft, h1, hl⟩ := loc_load h
        obtain ⟨vs, us, h5, h6, h7, h8⟩ := ih _ h1
        obtain ⟨v', ft', e1, adr, u, hu0, hu1, hu2, hu3⟩ := load_run (P := P) hr (x := .tmp ad) (K := fun v' _ => v' = v) (hT t ti hti) (hl m _ (fun _ _ => rfl) rfl)
        subst e1
        refine ⟨_, u :: us, h5, ⟨?_, h6⟩, ⟨hu2, h7⟩, fun x hx => ?_⟩
        · have hu0 : a.tmps.getD ad undef = .pointer (some adr) := hu0
          simp [resOne, hu0, asAddr, hu1]
        · rcases List.mem_cons.1 hx with rfl | hx
          · exact hu3
          · exact h8 x hx

theorem fnOkG (gh : List (Nat × List Gh)) {P : Program} {T : List (Nat × TI)} (hT : TabOk P T) (hmix : P.follows .mixedOrders = true) {f : Nat} {fn : Func} {body : Code} (hf : P.funcs[f]? = some fn) (hb : fn.body = some body) (hname : (fn.name != "runtime.NumGoroutine") = true) (hlex : lexC body = true)
    {args : List SV} {mA : List (Nat × Box)} {nA : Nat} {sv : SV} {mR : List (Nat × Box)} {nR : Nat} (hlen : Nat.ble args.length fn.ntmps = true) (hok : St.ok ⟨enum 0 args, mA, nA⟩ = true)
    (h : codeW P T fn.ntmps nA gh body (enum 0 args) mA nA (retW T nA fn.results.toList sv mR nR)) : FnOk P f args mA nA sv mR nR := by
  refine ⟨by unfold entered; rw [hf]; simp only [hname, hb]; rfl, fun w Z vs β hargs hmem => ?_⟩
  have hlen := Nat.le_of_ble_eq_true hlen
  have hvl := hargs.length
  unfold St.ok at hok
  rw [Bool.and_eq_true] at hok
  refine calls_of_wp hf hb ?_
  have hr : Rel w (XOf mA β) ⟨Z, nA, β⟩ fn.ntmps (· < nA) (enum 0 args) mA β { tmps := vs.toArray ++ Array.replicate (fn.ntmps - vs.toArray.size) undef, defers := [] } w := by
    refine ⟨by simp; omega, rfl, okT_spec hok.1, hmem.refb, fun i => ?_, hmem.boxes, hmem.inj, hmem.own, hmem.ext, hmem.new, fun b hb => ⟨hb, fun _ => rfl⟩, hmem.rown⟩
    rw [enum_lk, if_pos (Nat.zero_le _), Nat.sub_zero]
    cases hv : args[i]? with
    | none => trivial
    | some v =>
      obtain ⟨u, h1, h2⟩ := hargs.get hv
      have hi : i < vs.length := (List.getElem?_eq_some_iff.1 h1).1
      have : (vs.toArray ++ Array.replicate (fn.ntmps - vs.toArray.size) undef).getD i undef = u := by
        rw [Array.getD_eq_getD_getElem?, Array.getElem?_append_left (by simpa using hi)]
        simp [h1]
      rw [this]
      exact h2
  refine codeW_ok hT hmix hlex h hr fun e l' m' n' β' a' w' hk hr' => ?_
  have fin : retX T nA fn.results.toList sv mR nR l' m' n' → a'.defers = [] ∧ ∃ v, (results fn a'.tmps).run P w' = .ok v w' ∧ (∃ v_1 β', Ending.returned v = .returned v_1 ∧ SRd w' (Imm Z mR β' w') mR β' sv v_1 ∧ RefS (· < nR) sv ∧ MemRel w (XOf mA β) Z (· < nR) mR β' w' ∧ ∀ b, b < nA → lkb mR b ≠ .dead → β' b = β b) := by
    rintro ⟨ns, hk⟩
    obtain ⟨l', m', n', β', hk, hr'⟩ := ownW_ok hk hr'
    obtain ⟨svs, us, h1, h2, h3, h4⟩ := resW_ok hT hr' _ _ hk
    refine ⟨hr'.defers, valOf us, run_results h2, ?_⟩
    have h5 : ∃ v, (∃ ρ, le nA ρ [(0, v)] m' ⟨[(0, sv)], mR, nR⟩) ∧ SRd w' (Imm Z m' β' w') m' β' v (valOf us) ∧ RefS (· < n') v := by
      unfold oneOf at h1
      split at h1
      · rename_i v
        cases us with
        | nil => exact h3.elim
        | cons u us => cases us with
          | nil => exact ⟨v, SV.force_iff.1 h1, h3.1, h4 v (by simp)⟩
          | cons => exact h3.2.elim
      · rename_i vs hne
        obtain ⟨ts, h6, h7⟩ := tupW_ok h1
        obtain ⟨h8, h9⟩ := h7 _ _ _ _ _ _ h3 h4
        refine ⟨.tup ts, h6, ⟨us.toArray, ?_, h8.mono fun t _ u hu => by obtain ⟨b, cs⟩ := t; cases b <;> exact hu⟩, h9⟩
        have hlv := h3.length
        cases us with
        | nil => rfl
        | cons u us => cases us with
          | nil =>
            obtain ⟨v, hv⟩ := List.length_eq_one_iff.1 hlv
            exact (hne v hv).elim
          | cons => rfl
    obtain ⟨v, ⟨ρ, hle⟩, h6, h7⟩ := h5
    -- a frame that holds the result alone
    have hr2 : Rel w (XOf mA β) ⟨Z, nA, β⟩ 1 (· < n') [(0, v)] m' β' { tmps := #[valOf us], defers := [] } w' := by
      refine ⟨rfl, rfl, fun i => ?_, hr'.refb, fun i => ?_, hr'.boxes, hr'.inj, hr'.own, hr'.ext, hr'.new, hr'.pin, hr'.rown⟩
      · rw [lk_cons]; split
        · exact h7
        · trivial
      · rw [lk_cons]; split
        · rename_i e; subst e; exact h6
        · trivial
    obtain ⟨β3, hr3⟩ := hr2.le hle
    have hs := hr3.slots 0
    have hrf := hr3.refs 0
    exact ⟨_, β3, rfl, hs, hrf, hr3.mem, fun b hb hd => (hr3.pin b hb).2 hd⟩
  cases e with
  | normal => exact fin hk
  | ret => exact fin hk
  | _ => exact hk.elim

theorem fnOk {P : Program} {T : List (Nat × TI)} (hT : TabOk P T) (hmix : P.follows .mixedOrders = true) {f : Nat} {fn : Func} {body : Code} (hf : P.funcs[f]? = some fn) (hb : fn.body = some body) (hname : (fn.name != "runtime.NumGoroutine") = true) (hlex : lexC body = true)
    {args : List SV} {mA : List (Nat × Box)} {nA : Nat} {sv : SV} {mR : List (Nat × Box)} {nR : Nat} (hlen : Nat.ble args.length fn.ntmps = true) (hok : St.ok ⟨enum 0 args, mA, nA⟩ = true)
    (h : codeW P T fn.ntmps nA [] body (enum 0 args) mA nA (retW T nA fn.results.toList sv mR nR)) : FnOk P f args mA nA sv mR nR := fnOkG [] hT hmix hf hb hname hlex hlen hok h
/-- an element of an array -/
theorem arr_at {te : TI} {cs : List CV} {i : Nat} {c : CV} {k : SV → Prop} (ha : te.kind.agg = false) (hs : te.size = 1) (hc : cs[i]? = some c) (h : k (.one c)) : arrF te cs i k := by
  unfold arrF ldC
  rw [ha, hs, Nat.mul_one]
  have e : cs.drop i = c :: cs.drop (i + 1) := by
    obtain ⟨h1, h2⟩ := List.getElem?_eq_some_iff.1 hc
    rw [List.drop_eq_getElem_cons h1, h2]
  rw [e]; exact h
theorem idx_at {rows : List (List DV)} {i : Nat} {r : List DV} {K : List DV → Prop} (h : rows[i]? = some r) (k : K r) : idxF rows i K := ⟨r, h, k⟩
theorem ret_dv {np : Nat} {d d' : DV} {m : List (Nat × Box)} {nR : Nat} (h : d = d') (hn : Nat.ble np nR = true) : ∃ ρ, le np ρ [(0, .one (.dv d))] m ⟨[(0, .one (.dv d'))], [], nR⟩ := by
  subst h
  refine ⟨[], ?_⟩
  unfold le
  have : (St.ok ⟨[(0, .one (.dv d))], [], nR⟩ && injL [] [] && idB np [] && Nat.ble np nR) = true := by rw [hn]; rfl
  simp only
  rw [this]
  exact ⟨⟨rfl, trivial⟩, trivial⟩
theorem ret_b {np : Nat} {d d' : Bool} {m : List (Nat × Box)} {nR : Nat} (h : d = d') (hn : Nat.ble np nR = true) : ∃ ρ, le np ρ [(0, .one (.dv (.bool d)))] m ⟨[(0, .one (.dv (.bool d')))], [], nR⟩ := ret_dv (by rw [h]) hn
theorem ret_i {np : Nat} {k : IntKind} {d d' : Int} {m : List (Nat × Box)} {nR : Nat} (h : d = d') (hn : Nat.ble np nR = true) : ∃ ρ, le np ρ [(0, .one (.dv (.int k d)))] m ⟨[(0, .one (.dv (.int k d')))], [], nR⟩ := ret_dv (by rw [h]) hn

theorem loop_intro {np : Nat} {body : List (Nat × SV) → List (Nat × Box) → Nat → KC → Prop} {l : List (Nat × SV)} {m : List (Nat × Box)} {n : Nat} {K : KC} {β : Type} (S : β → St) (I : β → Prop) (μ : β → Nat) (ns : List Gh) (p0 : β) (ρ0 : List (Nat × Nat)) (h0 : I p0)
    (hle : ownW ns l m n (fun l m _ => le np ρ0 l m (S p0)))
    (hround : ∀ p, I p → body (S p).tmps (S p).mem (S p).next (fun e l' m' n' => match e with
      | .normal => ∃ p' ρ, I p' ∧ μ p' < μ p ∧ le np ρ l' m' (S p')
      | e => K e l' m' n')) : loopW np body l m n K := ⟨β, S, I, μ, ns, p0, ρ0, h0, hle, hround⟩
/-- an index into data -/
theorem idx_and {α : Type} {f : α → List DV} {xs : List α} {i : Int} {x : α} {K : List DV → Prop} (h0 : 0 ≤ i) (hx : xs[i.toNat]? = some x) (h : K (f x)) : 0 ≤ i ∧ idxF (xs.map f) i.toNat K := ⟨h0, idx_map hx h⟩
/-- a call whose contract is known -/
theorem call_i {P : Program} {f : Nat} {args : List SV} {mA : List (Nat × Box)} {nA : Nat} {sv : SV} {mR : List (Nat × Box)} {nR : Nat} {R : SV → List (Nat × Box) → Nat → Prop} (h : FnOk P f args mA nA sv mR nR) (k : R sv mR nR) :
    ∃ sv mR nR, FnOk P f args mA nA sv mR nR ∧ R sv mR nR := ⟨sv, mR, nR, h, k⟩
end Eng
