/- law6: TokenRejoins. -/
import Derived.Test.YtoabhjflfbblfaaLd
import Derived.Test.YtoabhjflfbblfaaNu5
namespace Go.Proofs.Ytoabhjflfbblfaa
open Eng
set_option maxRecDepth 10000
attribute [local irreducible] FnOk loopW idxF retX arrF

theorem text_eq {s t : ByteArray} (hs : s.size = t.size) (h : ∀ i, i < s.size → byteAt s i = byteAt t i) : s = t := by
  refine ByteArray.ext_getElem hs fun i hi hi' => ?_
  have := h i hi
  rw [byteAt_get hi, byteAt_get hi'] at this
  exact UInt8.toNat_inj.1 (Int.ofNat.inj this)
theorem cat_go (f : Int → ByteArray) : ∀ (xs : List Int) (s : ByteArray), xs.foldl (fun s x => s ++ f x) s = s ++ cat f xs
  | [], s => by simp [cat]
  | x :: xs, s => by
    rw [cat, List.foldl_cons, List.foldl_cons, cat_go f xs, cat_go f xs (ByteArray.empty ++ f x), ByteArray.append_assoc]
    simp
theorem cat_append (f : Int → ByteArray) (a b : List Int) : cat f (a ++ b) = cat f a ++ cat f b := by
  rw [cat, List.foldl_append, cat_go]; rfl
def wTab : List ByteArray := [⟨#[106, 111, 105, 110, 116]⟩, ⟨#[48, 46, 53]⟩, ⟨#[126, 33]⟩, ⟨#[119]⟩]
def sTab : List ByteArray := [⟨#[32]⟩, ⟨#[9, 32]⟩, ⟨#[10]⟩, ⟨#[35, 120, 32, 121, 10]⟩, ⟨#[32, 35, 32, 35, 255, 10, 10]⟩]
def wF (x : Int) : ByteArray := wTab.getD (x % 4).toNat ByteArray.empty
def sF (x : Int) : ByteArray := sTab.getD (x / 4 % 5).toNat ByteArray.empty
def pieceF (x : Int) : ByteArray := wF x ++ sF x
theorem wF_at (x : Int) : wTab[(x % 4).toNat]? = some (wF x) := by
  have h : (x % 4).toNat < wTab.length := by show _ < 4; omega
  rw [wF, List.getD_eq_getElem?_getD, List.getElem?_eq_getElem h]; rfl
theorem sF_at (x : Int) : sTab[(x / 4 % 5).toNat]? = some (sF x) := by
  have h : (x / 4 % 5).toNat < sTab.length := by show _ < 5; omega
  rw [sF, List.getD_eq_getElem?_getD, List.getElem?_eq_getElem h]; rfl
theorem wF_mem (x : Int) : wF x ∈ wTab := List.mem_of_getElem? (wF_at x)
theorem sF_mem (x : Int) : sF x ∈ sTab := List.mem_of_getElem? (sF_at x)
theorem wF_word (x : Int) : 1 ≤ (wF x).size ∧ (wF x).size ≤ 5 ∧ ∀ i, i < (wF x).size → wordB (byteAt (wF x) i) = true := by
  have h : ∀ t ∈ wTab, 1 ≤ t.size ∧ t.size ≤ 5 ∧ ∀ i, i < t.size → wordB (byteAt t i) = true := by decide
  exact h _ (wF_mem x)
theorem sF_size (x : Int) : (sF x).size ≤ 7 := by
  have h : ∀ t ∈ sTab, t.size ≤ 7 := by decide
  exact h _ (sF_mem x)
theorem piece_size (x : Int) : (pieceF x).size ≤ 12 := by
  have := wF_word x; have := sF_size x
  rw [pieceF, ByteArray.size_append]; omega
theorem auto_word {s : ByteArray} {p : Nat} {ln bg : Int} {W : List Word} (h : autoAt s p = ⟨ln, bg, false, -1, W, false⟩) : ∀ m, 1 ≤ m → (∀ i, i < m → wordB (byteAt s (p + i)) = true) → autoAt s (p + m) = ⟨ln, bg, false, p, W, false⟩
  | 0, h1, _ => by omega
  | m + 1, _, hw => by
    have hm := hw m (by omega)
    have hne : ¬ byteAt s (p + m) = 10 ∧ ¬ (byteAt s (p + m) = 32 ∨ byteAt s (p + m) = 9) ∧ ¬ byteAt s (p + m) = 35 := by simp [wordB] at hm; omega
    rw [← Nat.add_assoc, auto_succ]
    rcases Nat.eq_zero_or_pos m with rfl | hp
    · simp only [Nat.add_zero] at hne hm ⊢
      rw [h, stepS, if_neg (by simp), if_neg hne.1, if_neg (by simp), if_neg hne.2.1, if_neg hne.2.2, if_neg (by rw [hm]; simp), if_pos (by show (-1 : Int) < 0; decide)]
    · rw [auto_word h m hp fun i hi => hw i (by omega), stepS, if_neg (by simp), if_neg hne.1, if_neg (by simp), if_neg hne.2.1, if_neg hne.2.2, if_neg (by rw [hm]; simp), if_neg (by show ¬ (p : Int) < 0; omega)]
/-- what a separator leaves behind a word -/
theorem auto_sep {s : ByteArray} {p q : Nat} {ln bg : Int} {W : List Word} (h : autoAt s q = ⟨ln, bg, false, p, W, false⟩) {t : ByteArray} (ht : t ∈ sTab) (hb : ∀ i, i < t.size → byteAt s (q + i) = byteAt t i) :
    ∃ ln' bg', ln ≤ ln' ∧ autoAt s (q + t.size) = ⟨ln', bg', false, -1, W ++ [⟨s.extract p q, ln, p - bg + 1⟩], false⟩ := by
  have fp : ∀ k, fin s ⟨ln, bg, false, p, W, false⟩ k = W ++ [⟨s.extract p k, ln, p - bg + 1⟩] := fun k => by rw [fin, if_pos (by show (0 : Int) ≤ p; omega)]; simp
  have f1 : ∀ (a b : Int) (c : Bool) (V : List Word) k, fin s ⟨a, b, c, -1, V, false⟩ k = V := fun a b c V k => by rw [fin, if_neg (by show ¬ (0 : Int) ≤ -1; decide)]
  simp only [sTab, List.mem_cons, List.not_mem_nil, or_false] at ht
  rcases ht with rfl | rfl | rfl | rfl | rfl
  · have b0 : byteAt s q = 32 := hb 0 (by decide)
    refine ⟨ln, bg, Int.le_refl _, ?_⟩
    show autoAt s (q + 1) = _
    rw [auto_succ, h]; simp [stepS, b0, fp]
  · have b0 : byteAt s q = 9 := hb 0 (by decide)
    have b1 : byteAt s (q + 1) = 32 := hb 1 (by decide)
    refine ⟨ln, bg, Int.le_refl _, ?_⟩
    show autoAt s (q + 1 + 1) = _
    rw [auto_succ, auto_succ, h]; simp [stepS, b0, b1, fp, f1]
  · have b0 : byteAt s q = 10 := hb 0 (by decide)
    refine ⟨ln + 1, q + 1, by omega, ?_⟩
    show autoAt s (q + 1) = _
    rw [auto_succ, h]; simp [stepS, b0, fp]
  · have b0 : byteAt s q = 35 := hb 0 (by decide)
    have b1 : byteAt s (q + 1) = 120 := hb 1 (by decide)
    have b2 : byteAt s (q + 1 + 1) = 32 := hb 2 (by decide)
    have b3 : byteAt s (q + 1 + 1 + 1) = 121 := hb 3 (by decide)
    have b4 : byteAt s (q + 1 + 1 + 1 + 1) = 10 := hb 4 (by decide)
    refine ⟨ln + 1, ((q + 1 + 1 + 1 + 1 : Nat) : Int) + 1, by omega, ?_⟩
    show autoAt s (q + 1 + 1 + 1 + 1 + 1) = _
    rw [auto_succ, auto_succ, auto_succ, auto_succ, auto_succ, h]; simp [stepS, b0, b1, b2, b3, b4, fp, f1]; omega
  · have b0 : byteAt s q = 32 := hb 0 (by decide)
    have b1 : byteAt s (q + 1) = 35 := hb 1 (by decide)
    have b2 : byteAt s (q + 1 + 1) = 32 := hb 2 (by decide)
    have b3 : byteAt s (q + 1 + 1 + 1) = 35 := hb 3 (by decide)
    have b4 : byteAt s (q + 1 + 1 + 1 + 1) = 255 := hb 4 (by decide)
    have b5 : byteAt s (q + 1 + 1 + 1 + 1 + 1) = 10 := hb 5 (by decide)
    have b6 : byteAt s (q + 1 + 1 + 1 + 1 + 1 + 1) = 10 := hb 6 (by decide)
    refine ⟨ln + 1 + 1, ((q + 1 + 1 + 1 + 1 + 1 + 1 : Nat) : Int) + 1, by omega, ?_⟩
    show autoAt s (q + 1 + 1 + 1 + 1 + 1 + 1 + 1) = _
    rw [auto_succ, auto_succ, auto_succ, auto_succ, auto_succ, auto_succ, auto_succ, h]; simp [stepS, b0, b1, b2, b3, b4, b5, b6, fp, f1]; omega
structure Rej (ys : List Int) (k : Nat) (W : List Word) (ln : Int) : Prop where
  len : W.length = k
  text : ∀ (i : Nat) (w : Word) (y : Int), W[i]? = some w → ys[i]? = some y → w.text = wF y
  line : ∀ w ∈ W, w.line ≤ ln
  up : W.Pairwise fun a b => a.line ≤ b.line
theorem rejoin (ys : List Int) : ∀ k, k ≤ ys.length → ∃ W ln bg, autoAt (cat pieceF ys) (cat pieceF (ys.take k)).size = ⟨ln, bg, false, -1, W, false⟩ ∧ Rej ys k W ln
  | 0, _ => ⟨[], 1, 0, rfl, rfl, by simp, by simp, by simp⟩
  | k + 1, hk => by
    obtain ⟨W, ln, bg, h, hr⟩ := rejoin ys k (by omega)
    obtain ⟨y, hy⟩ : ∃ y, ys[k]? = some y := ⟨_, List.getElem?_eq_getElem (by omega)⟩
    have hsplit : cat pieceF ys = cat pieceF (ys.take k) ++ (pieceF y ++ cat pieceF (ys.drop (k + 1))) := by
      have e : ys = ys.take k ++ (y :: ys.drop (k + 1)) := by rw [← drop_cons hy, List.take_append_drop]
      conv => lhs; rw [e]
      rw [cat_append]
      congr 1
      rw [cat, List.foldl_cons, cat_go]; simp
    have hnext : cat pieceF (ys.take (k + 1)) = cat pieceF (ys.take k) ++ pieceF y := cat_succ hy
    generalize cat pieceF (ys.take k) = pre at *
    generalize hs : cat pieceF ys = s at *
    have hby : ∀ i, i < (pieceF y).size → byteAt s (pre.size + i) = byteAt (pieceF y) i := fun i hi => by
      rw [hsplit, byteAt_app, if_neg (by omega), byteAt_app, if_pos (by omega)]
      congr 1; omega
    obtain ⟨w1, w2, w3⟩ := wF_word y
    have hps : (pieceF y).size = (wF y).size + (sF y).size := by rw [pieceF, ByteArray.size_append]
    have bw : ∀ i, i < (wF y).size → byteAt s (pre.size + i) = byteAt (wF y) i := fun i hi => by
      rw [hby i (by omega), pieceF, byteAt_app, if_pos hi]
    have bs : ∀ i, i < (sF y).size → byteAt s (pre.size + (wF y).size + i) = byteAt (sF y) i := fun i hi => by
      rw [Nat.add_assoc, hby _ (by omega), pieceF, byteAt_app, if_neg (by omega)]
      congr 1; omega
    have hA := auto_word h (wF y).size w1 fun i hi => by rw [bw i hi]; exact w3 i hi
    obtain ⟨ln', bg', hl, hB⟩ := auto_sep hA (sF_mem y) bs
    have hsz : pre.size + (wF y).size ≤ s.size := by rw [hsplit, ByteArray.size_append, ByteArray.size_append]; omega
    have htx : s.extract pre.size (pre.size + (wF y).size) = wF y := by
      refine text_eq (by rw [ByteArray.size_extract]; omega) fun i hi => ?_
      rw [ByteArray.size_extract] at hi
      rw [byteAt_ext hsz (by omega)]; exact bw i (by omega)
    refine ⟨W ++ [⟨s.extract pre.size (pre.size + (wF y).size), ln, pre.size - bg + 1⟩], ln', bg', ?_, ?_⟩
    · rw [hnext, ByteArray.size_append, hps, ← Nat.add_assoc]; exact hB
    · refine ⟨by simp [hr.len], fun i w y' hw hy' => ?_, fun w hw => ?_, ?_⟩
      · rcases Nat.lt_or_ge i W.length with hi | hi
        · rw [List.getElem?_append_left hi] at hw
          exact hr.text i w y' hw hy'
        · have hik : i = k := by have := (List.getElem?_eq_some_iff.1 hw).1; simp [hr.len] at this hi; omega
          subst hik
          rw [List.getElem?_append_right hi, hr.len, Nat.sub_self] at hw
          simp at hw
          subst hw
          rw [hy] at hy'; injection hy' with hy'; subst hy'
          exact htx
      · rcases List.mem_append.1 hw with hw | hw
        · exact Int.le_trans (hr.line w hw) hl
        · simp only [List.mem_singleton] at hw; subst hw; exact hl
      · rw [List.pairwise_append]
        refine ⟨hr.up, by simp, fun a ha b hb => ?_⟩
        simp only [List.mem_singleton] at hb; subst hb; exact hr.line a ha
theorem rejoin_split (ys : List Int) (h60 : ys.length ≤ 60) : ∃ W, splitOf (cat pieceF ys) = (W, 0, 0) ∧ ∃ ln, Rej ys ys.length W ln := by
  obtain ⟨W, ln, bg, h, hr⟩ := rejoin ys ys.length (Nat.le_refl _)
  rw [List.take_length] at h
  have hsz := cat_size piece_size ys
  refine ⟨W, ?_, ln, hr⟩
  rw [splitOf, if_neg (by omega), h, if_neg (by simp), fin, if_neg (by show ¬ (0 : Int) ≤ -1; decide)]
set_option maxHeartbeats 2000000 in
theorem law6_Rejoins (xs : List Int) (hx : bytesOk xs) : FnOk Try.prog F.law6_TokenRejoins [Lb xs] [] 0 (Bo true) [] 0 := by
  refine fnOk tab mix G.law6_TokenRejoins rfl rfl (by kernel_rfl) rfl rfl ?_
  (conv => whnf)
  obtain ⟨hx1, hx2⟩ := hx
  refine loop_intro (fun k : Nat => ⟨[(0, Lb xs), (3, Tx (cat pieceF (xs.take k))), (4, I k), (5, I k)], [], 0⟩) (fun k => k ≤ xs.length ∧ k ≤ 60) (fun k => 60 - k) [] 0 [] ⟨Nat.zero_le _, Nat.zero_le _⟩ ⟨⟨rfl, rfl, rfl, rfl, trivial⟩, trivial⟩ ?_
  rintro k ⟨hk, hk60⟩
  have hsz := cat_size piece_size (xs.take k)
  have hlk : (xs.take k).length = k := by simp; omega
  have hkk : IntKind.i64.wrap ((k : Int) + 1) = ((k + 1 : Nat) : Int) := by rw [w64] <;> omega
  obtain ⟨V, e, ln, hr⟩ := rejoin_split (xs.take k) (by omega)
  rw [hlk] at hr
  have hVl := hr.len
  (conv => whnf)
  refine ask_m (fun h => ?_) (fun h => ?_)
  rotate_left
  rotate_left
  · have hlt : k < xs.length := by simp at h; omega
    obtain ⟨x, hxk⟩ : ∃ x, xs[k]? = some x := ⟨_, List.getElem?_eq_getElem hlt⟩
    obtain ⟨b0, b1⟩ := hx2 x (List.mem_of_getElem? hxk)
    (conv => whnf)
    refine ask_m (fun h => ?_) (fun h => ?_)
    · have h60 : k < 60 := by have := of_decide_eq_true h; omega
      have d4 : IntKind.u8.wrap (x.tdiv 4) = x / 4 := by rw [Int.tdiv_eq_ediv_of_nonneg b0, IntKind.wrap_u8]; omega
      (conv => whnf)
      refine idx_and (by omega) (by simpa using hxk) ?_
      (conv => whnf)
      refine ⟨by decide, ?_⟩
      (conv => whnf)
      rw [u8mod b0 (by decide)]
      refine ⟨⟨by omega, by show _ < (4 : Int); omega⟩, ?_⟩
      refine arr_text (tb := wTab) rfl rfl (wF_at x) ?_
      (conv => whnf)
      refine idx_and (by omega) (by simpa using hxk) ?_
      (conv => whnf)
      refine ⟨by decide, ?_⟩
      (conv => whnf)
      refine ⟨by decide, ?_⟩
      (conv => whnf)
      rw [d4, u8mod (x := x / 4) (by omega) (by decide)]
      refine ⟨⟨by omega, by show _ < (5 : Int); omega⟩, ?_⟩
      refine arr_text (tb := sTab) rfl rfl (sF_at x) ?_
      (conv => whnf)
      have q1 := wF_word x
      have q2 := sF_size x
      refine ⟨by omega, ?_⟩
      (conv => whnf)
      refine ⟨by rw [ByteArray.size_append]; omega, ?_⟩
      (conv => whnf)
      refine ⟨k + 1, [], ⟨hlt, h60⟩, by omega, ⟨⟨rfl, ?_, eqI hkk, eqI hkk, trivial⟩, trivial⟩⟩
      rw [cat_succ hxk]; rfl
    · skip
      clear h
      (conv => whnf)
      refine call_i (token_Split (cat pieceF (xs.take k))) ?_
      (conv => whnf)
      rw [e]
      (conv => whnf)
      refine ask_mf (by simp [hVl]) ?_
      (conv => whnf)
      refine loop_intro (fun i : Nat => ⟨[(0, Lb xs), (6, .one (.dv (dWs V))), (8, I i)], [], 0⟩) (fun i => i ≤ V.length) (fun i => V.length - i) [] 0 [] (Nat.zero_le _) ⟨⟨rfl, rfl, rfl, trivial⟩, trivial⟩ ?_
      rintro i hi
      (conv => whnf)
      refine ask_m (fun h => ?_) (fun h => ?_)
      · have hlt : i < V.length := by simp at h; omega
        have hii : IntKind.i64.wrap ((i : Int) + 1) = ((i + 1 : Nat) : Int) := by rw [w64] <;> omega
        obtain ⟨w, hw⟩ : ∃ w, V[i]? = some w := ⟨_, List.getElem?_eq_getElem hlt⟩
        obtain ⟨y, hy⟩ : ∃ y, xs[i]? = some y := ⟨_, List.getElem?_eq_getElem (by omega)⟩
        obtain ⟨b0, b1⟩ := hx2 y (List.mem_of_getElem? hy)
        have htx := hr.text i w y hw (by rw [List.getElem?_take, if_pos (by omega)]; exact hy)
        (conv => whnf)
        refine idx_and (by omega) (by simpa using hw) ?_
        (conv => whnf)
        refine idx_and (by omega) (by simpa using hy) ?_
        (conv => whnf)
        refine ⟨by decide, ?_⟩
        (conv => whnf)
        rw [u8mod b0 (by decide)]
        refine ⟨⟨by omega, by show _ < (4 : Int); omega⟩, ?_⟩
        refine arr_text (tb := wTab) rfl rfl (wF_at y) ?_
        rw [htx]
        (conv => whnf)
        rw [decide_eq_true rfl]
        (conv => whnf)
        refine ask_m (fun h0 => ?_) (fun h0 => ?_)
        · have h0 : 0 < i := by have := of_decide_eq_true h0; omega
          obtain ⟨u, hu⟩ : ∃ u, V[i - 1]? = some u := ⟨_, List.getElem?_eq_getElem (by omega)⟩
          have hul : ¬ w.line < u.line := by
            obtain ⟨a1, a2⟩ := List.getElem?_eq_some_iff.1 hu
            obtain ⟨c1, c2⟩ := List.getElem?_eq_some_iff.1 hw
            have := List.pairwise_iff_getElem.1 hr.up (i - 1) i a1 c1 (by omega)
            rw [a2, c2] at this; omega
          have wi : IntKind.i64.wrap ((i : Int) - 1) = ((i - 1 : Nat) : Int) := by rw [w64] <;> omega
          (conv => whnf)
          refine idx_and (by omega) (by simpa using hw) ?_
          (conv => whnf)
          rw [wi]
          refine idx_and (by omega) (by simpa using hu) ?_
          (conv => whnf)
          refine ask_mf (decide_eq_false hul) ?_
          (conv => whnf)
          exact ⟨i + 1, [], hlt, by omega, ⟨⟨rfl, rfl, eqI hii, trivial⟩, trivial⟩⟩
        · (conv => whnf)
          exact ⟨i + 1, [], hlt, by omega, ⟨⟨rfl, rfl, eqI hii, trivial⟩, trivial⟩⟩
      · (conv => whnf)
        refine call_i (law6_awake) ?_
        (conv => whnf)
        (conv => whnf)
        refine ret0 ?_
        exact ret_b rfl rfl
  · skip
    clear h
    (conv => whnf)
    refine call_i (token_Split (cat pieceF (xs.take k))) ?_
    (conv => whnf)
    rw [e]
    (conv => whnf)
    refine ask_mf (by simp [hVl]) ?_
    (conv => whnf)
    refine loop_intro (fun i : Nat => ⟨[(0, Lb xs), (6, .one (.dv (dWs V))), (8, I i)], [], 0⟩) (fun i => i ≤ V.length) (fun i => V.length - i) [] 0 [] (Nat.zero_le _) ⟨⟨rfl, rfl, rfl, trivial⟩, trivial⟩ ?_
    rintro i hi
    (conv => whnf)
    refine ask_m (fun h => ?_) (fun h => ?_)
    · have hlt : i < V.length := by simp at h; omega
      have hii : IntKind.i64.wrap ((i : Int) + 1) = ((i + 1 : Nat) : Int) := by rw [w64] <;> omega
      obtain ⟨w, hw⟩ : ∃ w, V[i]? = some w := ⟨_, List.getElem?_eq_getElem hlt⟩
      obtain ⟨y, hy⟩ : ∃ y, xs[i]? = some y := ⟨_, List.getElem?_eq_getElem (by omega)⟩
      obtain ⟨b0, b1⟩ := hx2 y (List.mem_of_getElem? hy)
      have htx := hr.text i w y hw (by rw [List.getElem?_take, if_pos (by omega)]; exact hy)
      (conv => whnf)
      refine idx_and (by omega) (by simpa using hw) ?_
      (conv => whnf)
      refine idx_and (by omega) (by simpa using hy) ?_
      (conv => whnf)
      refine ⟨by decide, ?_⟩
      (conv => whnf)
      rw [u8mod b0 (by decide)]
      refine ⟨⟨by omega, by show _ < (4 : Int); omega⟩, ?_⟩
      refine arr_text (tb := wTab) rfl rfl (wF_at y) ?_
      rw [htx]
      (conv => whnf)
      rw [decide_eq_true rfl]
      (conv => whnf)
      refine ask_m (fun h0 => ?_) (fun h0 => ?_)
      · have h0 : 0 < i := by have := of_decide_eq_true h0; omega
        obtain ⟨u, hu⟩ : ∃ u, V[i - 1]? = some u := ⟨_, List.getElem?_eq_getElem (by omega)⟩
        have hul : ¬ w.line < u.line := by
          obtain ⟨a1, a2⟩ := List.getElem?_eq_some_iff.1 hu
          obtain ⟨c1, c2⟩ := List.getElem?_eq_some_iff.1 hw
          have := List.pairwise_iff_getElem.1 hr.up (i - 1) i a1 c1 (by omega)
          rw [a2, c2] at this; omega
        have wi : IntKind.i64.wrap ((i : Int) - 1) = ((i - 1 : Nat) : Int) := by rw [w64] <;> omega
        (conv => whnf)
        refine idx_and (by omega) (by simpa using hw) ?_
        (conv => whnf)
        rw [wi]
        refine idx_and (by omega) (by simpa using hu) ?_
        (conv => whnf)
        refine ask_mf (decide_eq_false hul) ?_
        (conv => whnf)
        exact ⟨i + 1, [], hlt, by omega, ⟨⟨rfl, rfl, eqI hii, trivial⟩, trivial⟩⟩
      · (conv => whnf)
        exact ⟨i + 1, [], hlt, by omega, ⟨⟨rfl, rfl, eqI hii, trivial⟩, trivial⟩⟩
    · (conv => whnf)
      refine call_i (law6_awake) ?_
      (conv => whnf)
      (conv => whnf)
      refine ret0 ?_
      exact ret_b rfl rfl
end Go.Proofs.Ytoabhjflfbblfaa
