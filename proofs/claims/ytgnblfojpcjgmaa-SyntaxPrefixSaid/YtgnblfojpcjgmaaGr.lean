/- law7: statements, syntax.group. -/
import Derived.Test.YtgnblfojpcjgmaaAr
import Derived.Test.YtgnblfojpcjgmaaSp2
namespace Go.Proofs.Ytgnblfojpcjgmaa
open Eng
set_option maxRecDepth 10000
attribute [local irreducible] FnOk loopW idxF retX arrF findF

structure Stmt where
  line : Int
  word : ByteArray
  args : List ByteArray
deriving DecidableEq
def encA (s : ByteArray) : List DV := [.str s]
def encSt (s : Stmt) : List DV := [.int .i64 s.line, .str s.word, .lst 1 (s.args.map encA)]
abbrev dSts (l : List Stmt) : DV := .lst 3 (l.map encSt)
/-- one more word -/
def gstep (acc : List Stmt × Option Stmt) (w : Word) : List Stmt × Option Stmt := match acc.2 with
  | none => (acc.1, some ⟨w.line, w.text, []⟩)
  | some s => if s.line = w.line then (acc.1, some ⟨s.line, s.word, s.args ++ [w.text]⟩) else (acc.1 ++ [s], some ⟨w.line, w.text, []⟩)
def gAll (ws : List Word) : List Stmt × Option Stmt := ws.foldl gstep ([], none)
def groupOf (ws : List Word) : List Stmt := (gAll ws).1 ++ (gAll ws).2.toList
/-- the row of statements and the row of the last one's arguments -/
def gBoxes (rs : List Stmt) : Option Stmt → List (Nat × Box)
  | none => [(0, .rows Y.Statement 3 (rs.map encSt))]
  | some ⟨ln, wd, []⟩ => [(0, .rows Y.Statement 3 (rs.map encSt ++ [[.int .i64 ln, .str wd, .nul 1]]))]
  | some ⟨ln, wd, a :: r⟩ => [(0, .orow Y.Statement 3 (rs.map encSt) [.dv (.int .i64 ln), .dv (.str wd), .row 1]), (1, .rows Y.string 1 ((a :: r).map encA))]
theorem gAll_len (ws : List Word) : ∀ (acc : List Stmt × Option Stmt) (n : Nat), acc.1.length ≤ n ∧ (∀ s, acc.2 = some s → s.args.length ≤ n) → (ws.foldl gstep acc).1.length ≤ n + ws.length ∧ ∀ s, (ws.foldl gstep acc).2 = some s → s.args.length ≤ n + ws.length := by
  induction ws with
  | nil => intro acc n h; exact h
  | cons w ws ih =>
    intro acc n h
    have := ih (gstep acc w) (n + 1) (by
      obtain ⟨rs, o⟩ := acc
      obtain ⟨h1, h2⟩ := h
      cases o with
      | none =>
        refine ⟨by simp only [gstep]; simp only at h1; omega, fun s hs => ?_⟩
        simp only [gstep, Option.some.injEq] at hs
        subst hs; simp
      | some s0 =>
        have h3 := h2 s0 rfl
        simp only [gstep]
        split
        · refine ⟨by simp only at h1 ⊢; omega, fun s hs => ?_⟩
          simp only [Option.some.injEq] at hs
          subst hs; simp; omega
        · refine ⟨by simp at h1 ⊢; omega, fun s hs => ?_⟩
          simp only [Option.some.injEq] at hs
          subst hs; simp)
    rw [List.foldl_cons, List.length_cons]
    rw [show n + (ws.length + 1) = n + 1 + ws.length by omega]
    exact this
theorem eqD3 {a b : List (List DV)} (h : a = b) : SV.one (.dv (.lst 3 a)) = SV.one (.dv (.lst 3 b)) := by rw [h]
theorem syntax_group (ws : List Word) (hl : ws.length ≤ 1099511627776) : FnOk Try.prog F.syntax_group [.one (.dv (dWs ws))] [] 0 (.one (.dv (dSts (groupOf ws)))) [] 0 := by
  refine fnOkG [(7, [.ask]), (8, [.ask]), (10, [.ask]), (1000034, [.nul 33 2])] tab mix G.syntax_group rfl rfl (by kernel_rfl) rfl rfl ?_
  (conv => whnf)
  refine loop_intro (fun p : Nat × List Stmt × Option Stmt => ⟨[(3, .one (.row 0)), (7, .one (.dv (dWs ws))), (8, I ws.length), (9, I p.1)], gBoxes p.2.1 p.2.2, 2⟩) (fun p => p.1 ≤ ws.length ∧ gAll (ws.take p.1) = (p.2.1, p.2.2) ∧ (p.2.2 = none → p.2.1 = [])) (fun p => ws.length - p.1) [.own 3 Y.Statement 3] (0, [], none) [] ⟨Nat.zero_le _, rfl, fun _ => rfl⟩ ⟨⟨rfl, rfl, eqI (by simp), rfl, trivial⟩, ⟨rfl, trivial⟩⟩ ?_
  rintro ⟨k, rs, o⟩ ⟨hk, hg, hn⟩
  simp only at hk hg hn
  have hlen := gAll_len (ws.take k) ([], none) 0 ⟨Nat.zero_le _, fun s h => by cases h⟩
  rw [← gAll, hg, Nat.zero_add, List.length_take] at hlen
  simp only at hlen
  by_cases hlt : k < ws.length
  · obtain ⟨w, hw⟩ : ∃ w, ws[k]? = some w := ⟨_, List.getElem?_eq_getElem hlt⟩
    have hkk : IntKind.i64.wrap ((k : Int) + 1) = ((k + 1 : Nat) : Int) := by rw [w64] <;> omega
    have hstep : gAll (ws.take (k + 1)) = gstep (rs, o) w := by
      rw [List.take_add_one, hw, gAll, List.foldl_append, ← gAll, hg]; rfl
    match o, hg, hn, hstep, hlen with
    | none, hg, hn, hstep, hlen =>
      have hn := hn rfl
      subst hn
      (conv => whnf)
      refine ask_mt (by simpa using hlt) ?_
      (conv => whnf)
      refine idx_and (by omega) (by simpa using hw) ?_
      (conv => whnf)
      refine ⟨[], ?_⟩
      (conv => whnf)
      refine ⟨⟨by simp, by simp⟩, ?_⟩
      (conv => whnf)
      refine ⟨(k + 1, [], some ⟨w.line, w.text, []⟩), [(0, 4)], ⟨hlt, hstep, fun h => by cases h⟩, by simp only; omega, ⟨⟨rfl, rfl, rfl, eqI hkk, trivial⟩, ⟨rfl, trivial⟩⟩⟩
    | some ⟨ln, wd, []⟩, hg, hn, hstep, hlen =>
      (conv => whnf)
      refine ask_mt (by simpa using hlt) ?_
      (conv => whnf)
      refine idx_and (by omega) (by simpa using hw) ?_
      have hla : IntKind.i64.wrap (((rs.map encSt ++ [[DV.int IntKind.i64 ln, DV.str wd, DV.nul 1]]).length : Int) - 1) = (rs.length : Int) := by
        have := hlen.1
        rw [w64] <;> simp <;> omega
      (conv => whnf)
      refine ask_mf (by rw [hla]; simp) ?_
      (conv => whnf)
      rw [hla]
      refine ⟨⟨by omega, by simp; omega⟩, ?_⟩
      (conv => whnf)
      rw [Int.toNat_natCast]
      refine idx_at (r := [DV.int IntKind.i64 ln, DV.str wd, DV.nul 1]) (by simp) ?_
      (conv => whnf)
      refine ask_m (fun h => ?_) (fun h => ?_)
      · (conv => whnf)
        have hne : ¬ ln = w.line := by simpa using h
        refine ⟨[.opn 0, .wkn 0 2, .cls 0], ?_⟩
        (conv => whnf)
        refine ⟨_, _, rfl, ?_⟩
        (conv => whnf)
        refine ⟨⟨by simp; omega, by simp; omega⟩, ?_⟩
        (conv => whnf)
        refine ⟨(k + 1, rs ++ [⟨ln, wd, []⟩], some ⟨w.line, w.text, []⟩), [(0, 4)], ⟨hlt, by rw [hstep, gstep]; simp only [if_neg hne], fun h => by cases h⟩, by simp only; omega, ⟨⟨rfl, rfl, rfl, eqI hkk, trivial⟩, ⟨?_, trivial⟩⟩⟩
        exact congrArg (Box.rows Y.Statement 3) (show rs.map encSt ++ [[.int .i64 ln, .str wd, .lst 1 []]] ++ [[.int .i64 w.line, .str w.text, .nul 1]] = (rs ++ [Stmt.mk ln wd []]).map encSt ++ [[.int .i64 w.line, .str w.text, .nul 1]] from by rw [List.map_append]; rfl)
      · (conv => whnf)
        have he : ln = w.line := by simpa using h
        refine ⟨[.opn 0, .ownL 0 2 9 1], ?_⟩
        (conv => whnf)
        refine ⟨_, _, rfl, ?_⟩
        (conv => whnf)
        refine ⟨⟨by omega, by simp; omega⟩, ?_⟩
        (conv => whnf)
        refine ⟨by simp, ?_⟩
        (conv => whnf)
        refine ⟨⟨by simp, by simp⟩, ?_⟩
        (conv => whnf)
        refine ⟨⟨by omega, by simp; omega⟩, ?_⟩
        (conv => whnf)
        refine ⟨by simp, ?_⟩
        (conv => whnf)
        refine ⟨(k + 1, rs, some ⟨ln, wd, [w.text]⟩), [(0, 0), (1, 5)], ⟨hlt, by rw [hstep, gstep]; simp only [if_pos he]; rfl, fun h => by cases h⟩, by simp only; omega, ⟨⟨rfl, rfl, rfl, eqI hkk, trivial⟩, ⟨rfl, rfl, trivial⟩⟩⟩
    | some ⟨ln, wd, a :: r⟩, hg, hn, hstep, hlen =>
      have hra := hlen.2 _ rfl
      simp only [List.length_cons] at hra
      (conv => whnf)
      refine ask_mt (by simpa using hlt) ?_
      (conv => whnf)
      refine idx_and (by omega) (by simpa using hw) ?_
      have hla : IntKind.i64.wrap (((rs.map encSt).length + 1 : Nat) - 1 : Int) = (rs.length : Int) := by
        have := hlen.1
        rw [w64] <;> simp <;> omega
      (conv => whnf)
      refine ask_mf (by rw [hla]; simp) ?_
      (conv => whnf)
      rw [hla]
      refine ⟨⟨by omega, by simp; omega⟩, ?_⟩
      (conv => whnf)
      refine ⟨by simp, ?_⟩
      (conv => whnf)
      refine ask_m (fun h => ?_) (fun h => ?_)
      · (conv => whnf)
        have hne : ¬ ln = w.line := by simpa using h
        refine ⟨[.frz 1, .cls 0], ?_⟩
        (conv => whnf)
        refine ⟨⟨by simp; omega, by simp; omega⟩, ?_⟩
        (conv => whnf)
        refine ⟨(k + 1, rs ++ [⟨ln, wd, a :: r⟩], some ⟨w.line, w.text, []⟩), [(0, 4)], ⟨hlt, by rw [hstep, gstep]; simp only [if_neg hne], fun h => by cases h⟩, by simp only; omega, ⟨⟨rfl, rfl, rfl, eqI hkk, trivial⟩, ⟨?_, trivial⟩⟩⟩
        exact congrArg (Box.rows Y.Statement 3) (show rs.map encSt ++ [[.int .i64 ln, .str wd, .lst 1 ((a :: r).map encA)]] ++ [[.int .i64 w.line, .str w.text, .nul 1]] = (rs ++ [Stmt.mk ln wd (a :: r)]).map encSt ++ [[.int .i64 w.line, .str w.text, .nul 1]] from by rw [List.map_append]; rfl)
      · (conv => whnf)
        have he : ln = w.line := by simpa using h
        refine ⟨[], ?_⟩
        (conv => whnf)
        refine ⟨⟨by omega, by simp; omega⟩, ?_⟩
        (conv => whnf)
        refine ⟨by simp, ?_⟩
        (conv => whnf)
        refine ⟨⟨by simp; omega, by simp; omega⟩, ?_⟩
        (conv => whnf)
        refine ⟨⟨by omega, by simp; omega⟩, ?_⟩
        (conv => whnf)
        refine ⟨by simp, ?_⟩
        (conv => whnf)
        refine ⟨(k + 1, rs, some ⟨ln, wd, a :: (r ++ [w.text])⟩), [(0, 0), (1, 4)], ⟨hlt, by rw [hstep, gstep]; simp only [if_pos he]; rfl, fun h => by cases h⟩, by simp only; omega, ⟨⟨rfl, rfl, rfl, eqI hkk, trivial⟩, ⟨rfl, ?_, trivial⟩⟩⟩
        exact congrArg (Box.rows Y.string 1) (show (a :: r).map encA ++ [[.str w.text]] = (a :: (r ++ [w.text])).map encA from by simp [encA])
  · have hk : k = ws.length := by omega
    subst hk
    rw [List.take_length] at hg
    match o, hg, hn, hlen with
    | none, hg, hn, hlen =>
      have hn := hn rfl
      subst hn
      (conv => whnf)
      refine ask_mf (by simp) ?_
      (conv => whnf)
      refine ⟨[], ?_⟩
      (conv => whnf)
      (conv => whnf)
      refine retO [.frz 0] ?_
      (conv => whnf)
      exact ⟨[], ⟨eqD3 (show [] = (groupOf ws).map encSt by rw [groupOf, hg]; rfl), trivial⟩, trivial⟩
    | some ⟨ln, wd, []⟩, hg, hn, hlen =>
      (conv => whnf)
      refine ask_mf (by simp) ?_
      (conv => whnf)
      refine ⟨[.opn 0, .wkn 0 2, .cls 0], ?_⟩
      (conv => whnf)
      refine ⟨_, _, rfl, ?_⟩
      (conv => whnf)
      refine retO [.frz 0] ?_
      (conv => whnf)
      exact ⟨[], ⟨eqD3 (show rs.map encSt ++ [[.int .i64 ln, .str wd, .lst 1 []]] = (groupOf ws).map encSt by rw [groupOf, hg]; simp [encSt]), trivial⟩, trivial⟩
    | some ⟨ln, wd, a :: r⟩, hg, hn, hlen =>
      (conv => whnf)
      refine ask_mf (by simp) ?_
      (conv => whnf)
      refine ⟨[.frz 1, .cls 0], ?_⟩
      (conv => whnf)
      (conv => whnf)
      refine retO [.frz 0] ?_
      (conv => whnf)
      exact ⟨[], ⟨eqD3 (show rs.map encSt ++ [[.int .i64 ln, .str wd, .lst 1 ((a :: r).map encA)]] = (groupOf ws).map encSt by rw [groupOf, hg]; simp [encSt]), trivial⟩, trivial⟩
end Go.Proofs.Ytgnblfojpcjgmaa
