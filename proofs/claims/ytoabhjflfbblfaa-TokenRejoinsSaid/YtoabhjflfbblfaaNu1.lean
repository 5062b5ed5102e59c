/- Texts cut: the library's IndexByte, Index, Cut, CutPrefix at one byte. -/
import Derived.Test.YtoabhjflfbblfaaCo3
import Derived.Lib.Walk
import Derived.Lib.Bytealg
namespace Go.Proofs.Ytoabhjflfbblfaa
open Eng
set_option maxRecDepth 100000
attribute [local irreducible] FnOk loopW idxF retX arrF

theorem still_fn {P : Program} {f : Nat} (he : entered P f = true) {args : List SV} {us : List Value} {sv : SV} {v : Value} (hargs : ∀ (w : World) (N : Nat → Prop) (m : List (Nat × Box)) (β : Nat → Value) (vs : List Value), All2 (SRd w N m β) args vs → vs = us)
    (hres : ∀ (w : World) (N : Nat → Prop) (m : List (Nat × Box)) (β : Nat → Value), SRd w N m β sv v) (hrf : ∀ A, RefS A sv) (hc : ∀ w, Calls P f us.toArray w fun e w' => e = .returned v ∧ w' = w) : FnOk P f args [] 0 sv [] 0 := by
  unfold FnOk
  refine ⟨he, fun w Z vs β ha hm => ?_⟩
  rw [hargs w _ _ _ vs ha]
  refine (hc w).mono ?_
  rintro e w' ⟨rfl, rfl⟩
  exact ⟨v, β, rfl, hres _ _ _ _, hrf _, hm, fun b hb => by omega⟩
theorem lib_IndexByte (s : ByteArray) (c : Int) (w : World) :
    Calls Try.prog 39 #[.string s, .int .u8 c] w fun e w' => e = .returned (.int .i64 (Lib.indexByte s.data.toList c.toNat.toUInt8)) ∧ w' = w := by
  go_enter Try.func39, Try.ntmps39
  go_wp2
  rw [run_callFunc_extern Try.func43 (by kernel_rfl) (by kernel_rfl) (by kernel_rfl) (e := Extern.BytealgIndexByte.indexByte) (by kernel_rfl), Lib.run_indexByteString]
  simp only [Result.andThen]
  rw [Oper.upon_value]
  go_wp2
  go_ret
  exact ⟨rfl, rfl⟩
theorem sl_IndexByte (s : ByteArray) (c : Int) : FnOk Try.prog F.internal_stringslite_IndexByte [Tx s, By c] [] 0 (I (Lib.indexByte s.data.toList c.toNat.toUInt8)) [] 0 :=
  still_fn (us := [.string s, .int .u8 c]) (v := .int .i64 (Lib.indexByte s.data.toList c.toNat.toUInt8)) (by kernel_rfl) (fun w N m β vs h => by
    obtain ⟨a, r, rfl, h1, h⟩ := all2_cons h
    obtain ⟨b, r, rfl, h2, h⟩ := all2_cons h
    obtain rfl := all2_nil h
    rw [DRd.str_inv h1, DRd.int_inv h2]) (fun w N m β => DRd.int _ _) (fun A => trivial) (lib_IndexByte s c)

/- bytes -/
theorem byteAt_ext {s : ByteArray} {a b i : Nat} (hb : b ≤ s.size) (hi : i < b - a) : byteAt (s.extract a b) i = byteAt s (a + i) := by
  have h1 : i < (s.extract a b).size := by rw [ByteArray.size_extract]; omega
  have h2 : a + i < s.size := by omega
  rw [byteAt_get h1, byteAt_get h2, ByteArray.getElem_extract]
theorem byteAt_list {s : ByteArray} {i : Nat} (h : i < s.size) : s.data.toList[i]? = some (byteAt s i).toNat.toUInt8 := by
  rw [byteAt_get h]
  have h' : i < s.data.toList.length := by simpa using h
  rw [List.getElem?_eq_getElem h']
  simp only [Int.toNat_natCast]
  show some _ = some (UInt8.ofNat (s[i]'h).toNat)
  rw [UInt8.ofNat_toNat]; rfl
theorem byte_eq {s : ByteArray} {i : Nat} {c : UInt8} (h : i < s.size) : s.data.toList[i]? = some c ↔ byteAt s i = c.toNat := by
  rw [byteAt_list h, Option.some.injEq]
  have hb := byteAt_bd s i
  constructor
  · rintro rfl
    show _ = ((UInt8.ofNat _).toNat : Int)
    rw [UInt8.toNat_ofNat']; omega
  · intro e
    rw [e]
    show UInt8.ofNat c.toNat = c
    exact UInt8.ofNat_toNat
theorem index_spec (l : List UInt8) (c : UInt8) : (Lib.indexByte l c = -1 ∧ ∀ i : Nat, l[i]? ≠ some c) ∨ ∃ p : Nat, Lib.indexByte l c = p ∧ l[p]? = some c ∧ ∀ i : Nat, i < p → l[i]? ≠ some c := by
  induction l with
  | nil => exact .inl ⟨rfl, by simp⟩
  | cons b l ih =>
    by_cases hb : b = c
    · subst hb
      exact .inr ⟨0, by simp [Lib.indexByte], rfl, fun i h => by omega⟩
    · have hbe : (b == c) = false := by simpa using hb
      rcases ih with ⟨h1, h2⟩ | ⟨p, h1, h2, h3⟩
      · refine .inl ⟨by rw [Lib.indexByte, hbe, h1]; rfl, fun i => ?_⟩
        cases i with
        | zero => simpa using hb
        | succ i => simpa using h2 i
      · refine .inr ⟨p + 1, ?_, by simpa using h2, fun i hi => ?_⟩
        · rw [Lib.indexByte, hbe, h1, if_neg (by simp), if_neg (by simp)]; omega
        · cases i with
          | zero => simpa using hb
          | succ i => simpa using h3 i (by omega)
/-- the place of the first byte c, or -1 -/
def placeOfB (s : ByteArray) (c : UInt8) : Int := Lib.indexByte s.data.toList c
theorem place_spec (s : ByteArray) (c : UInt8) : (placeOfB s c = -1 ∧ ∀ i : Nat, i < s.size → byteAt s i ≠ c.toNat) ∨ ∃ p : Nat, placeOfB s c = p ∧ p < s.size ∧ byteAt s p = c.toNat ∧ ∀ i : Nat, i < p → byteAt s i ≠ c.toNat := by
  rcases index_spec s.data.toList c with ⟨h1, h2⟩ | ⟨p, h1, h2, h3⟩
  · exact .inl ⟨h1, fun i hi e => h2 i ((byte_eq hi).2 e)⟩
  · have hp : p < s.size := by simpa using (List.getElem?_eq_some_iff.1 h2).1
    exact .inr ⟨p, h1, hp, (byte_eq hp).1 h2, fun i hi e => h3 i hi ((byte_eq (by omega)).2 e)⟩
abbrev oneB (c : UInt8) : ByteArray := ⟨#[c]⟩
theorem sl_Index (s : ByteArray) (c : UInt8) : FnOk Try.prog F.internal_stringslite_Index [Tx s, Tx (oneB c)] [] 0 (I (placeOfB s c)) [] 0 := by
  refine fnOk tab mix G.internal_stringslite_Index rfl rfl (by kernel_rfl) rfl rfl ?_
  (conv => whnf)
  refine ask_m (fun h => ?_) (fun h => ?_)
  · have h : oneB c = s := of_decide_eq_true h
    subst h
    have e : placeOfB (oneB c) c = 0 := by
      rcases place_spec (oneB c) c with ⟨_, h⟩ | ⟨p, h1, h2, _⟩
      · exact absurd rfl (h 0 Nat.zero_lt_one)
      · have : p < 1 := h2
        rw [h1]; omega
    rw [e]
    (conv => whnf)
    refine ret0 ?_
    exact ret_i rfl rfl
  · (conv => whnf)
    refine ⟨⟨Int.le_refl _, Int.zero_lt_one⟩, ?_⟩
    (conv => whnf)
    refine call_i (sl_IndexByte s c.toNat) ?_
    (conv => whnf)
    (conv => whnf)
    refine ret0 ?_
    refine ret_i ?_ rfl
    rw [Int.toNat_natCast]
    show Lib.indexByte _ (UInt8.ofNat c.toNat) = _
    rw [UInt8.ofNat_toNat]; rfl
abbrev Cut3 (a b : ByteArray) (c : Bool) : SV := .tup [(false, [.dv (.str a)]), (false, [.dv (.str b)]), (false, [.dv (.bool c)])]
def cutL (s : ByteArray) (c : UInt8) : ByteArray := if 0 ≤ placeOfB s c then s.extract 0 (placeOfB s c).toNat else s
def cutR (s : ByteArray) (c : UInt8) : ByteArray := if 0 ≤ placeOfB s c then s.extract ((placeOfB s c).toNat + 1) s.size else ByteArray.empty
def cutB (s : ByteArray) (c : UInt8) : Bool := decide (0 ≤ placeOfB s c)
theorem sl_Cut (s : ByteArray) (c : UInt8) (hs : s.size ≤ 4611686018427387904) : FnOk Try.prog F.internal_stringslite_Cut [Tx s, Tx (oneB c)] [] 0 (Cut3 (cutL s c) (cutR s c) (cutB s c)) [] 0 := by
  refine fnOk tab mix G.internal_stringslite_Cut rfl rfl (by kernel_rfl) rfl rfl ?_
  (conv => whnf)
  refine call_i (sl_Index s c) ?_
  (conv => whnf)
  rw [cutL, cutR, cutB]
  refine ask_m (fun h => ?_) (fun h => ?_)
  · have h : 0 ≤ placeOfB s c := by simpa using h
    have hp : placeOfB s c < s.size := by
      rcases place_spec s c with ⟨h1, _⟩ | ⟨p, h1, h2, _⟩
      · omega
      · omega
    rw [if_pos h, if_pos h, decide_eq_true h]
    generalize placeOfB s c = p at *
    obtain ⟨p, rfl⟩ : ∃ k : Nat, p = k := ⟨p.toNat, by omega⟩
    have w1 : IntKind.i64.wrap ((p : Int) + ((oneB c).size : Nat)) = ((p + 1 : Nat) : Int) := by show IntKind.i64.wrap ((p : Int) + 1) = _; rw [w64] <;> omega
    (conv => whnf)
    refine ⟨⟨by omega, by omega⟩, ?_⟩
    (conv => whnf)
    rw [w1, Int.toNat_natCast]
    refine ⟨⟨by omega, by omega⟩, ?_⟩
    (conv => whnf)
    rw [Int.toNat_natCast]
    (conv => whnf)
    refine ret0 ?_
    exact ⟨[], ⟨rfl, trivial⟩, trivial⟩
  · have h : ¬ 0 ≤ placeOfB s c := by simpa using h
    rw [if_neg h, if_neg h, decide_eq_false h]
    (conv => whnf)
    refine ret0 ?_
    exact ⟨[], ⟨rfl, trivial⟩, trivial⟩
theorem st_Cut (s : ByteArray) (c : UInt8) (hs : s.size ≤ 4611686018427387904) : FnOk Try.prog F.strings_Cut [Tx s, Tx (oneB c)] [] 0 (Cut3 (cutL s c) (cutR s c) (cutB s c)) [] 0 := by
  refine fnOk tab mix G.strings_Cut rfl rfl (by kernel_rfl) rfl rfl ?_
  (conv => whnf)
  refine call_i (sl_Cut s c hs) ?_
  (conv => whnf)
  (conv => whnf)
  refine ret0 ?_
  exact ⟨[], ⟨rfl, trivial⟩, trivial⟩
def headB (s : ByteArray) (c : UInt8) : Bool := decide (1 ≤ s.size) && decide (byteAt s 0 = c.toNat)
def tailB (s : ByteArray) (c : UInt8) : ByteArray := if headB s c then s.extract 1 s.size else s
theorem head_ext {s : ByteArray} {c : UInt8} (h : 1 ≤ s.size) : decide (s.extract 0 1 = oneB c) = decide (byteAt s 0 = c.toNat) := by
  have h1 : byteAt (s.extract 0 1) 0 = byteAt s 0 := byteAt_ext (a := 0) h (by decide)
  have h2 : (s.extract 0 1).size = 1 := by rw [ByteArray.size_extract]; omega
  refine decide_eq_decide.2 ⟨fun e => ?_, fun e => ?_⟩
  · rw [← h1, e]; rfl
  · refine ByteArray.ext_getElem h2 fun i hi hi' => ?_
    have h0 : i = 0 := by omega
    subst h0
    have h3 := byteAt_get hi
    rw [h1, e] at h3
    have h4 : c.toNat = ((s.extract 0 1)[0]'hi).toNat := Int.ofNat.inj h3
    exact (UInt8.toNat_inj.1 h4).symm
theorem sl_HasPrefix (s : ByteArray) (c : UInt8) : FnOk Try.prog F.internal_stringslite_HasPrefix [Tx s, Tx (oneB c)] [] 0 (Bo (headB s c)) [] 0 := by
  refine fnOk tab mix G.internal_stringslite_HasPrefix rfl rfl (by kernel_rfl) rfl rfl ?_
  (conv => whnf)
  refine ask_m (fun h => ?_) (fun h => ?_)
  · have h : 1 ≤ s.size := by have : ((1 : Nat) : Int) ≤ s.size := of_decide_eq_true h
                              omega
    (conv => whnf)
    refine ⟨⟨Int.zero_le_ofNat 1, by show ((1 : Nat) : Int) ≤ _; omega⟩, ?_⟩
    (conv => whnf)
    refine ret0 ?_
    refine ret_b ?_ rfl
    rw [headB, decide_eq_true h, Bool.true_and]
    exact head_ext h
  · have h : ¬ 1 ≤ s.size := by have : ¬ ((1 : Nat) : Int) ≤ s.size := of_decide_eq_false h
                                omega
    (conv => whnf)
    refine ret0 ?_
    refine ret_b ?_ rfl
    rw [headB, decide_eq_false h, Bool.false_and]
abbrev Cut2 (a : ByteArray) (c : Bool) : SV := .tup [(false, [.dv (.str a)]), (false, [.dv (.bool c)])]
theorem sl_CutPrefix (s : ByteArray) (c : UInt8) : FnOk Try.prog F.internal_stringslite_CutPrefix [Tx s, Tx (oneB c)] [] 0 (Cut2 (tailB s c) (headB s c)) [] 0 := by
  refine fnOk tab mix G.internal_stringslite_CutPrefix rfl rfl (by kernel_rfl) rfl rfl ?_
  (conv => whnf)
  refine call_i (sl_HasPrefix s c) ?_
  (conv => whnf)
  refine ask_m (fun h => ?_) (fun h => ?_)
  · have h : headB s c = false := by simpa using h
    rw [tailB, h]
    (conv => whnf)
    refine ret0 ?_
    exact ⟨[], ⟨rfl, trivial⟩, trivial⟩
  · have h : headB s c = true := by simpa using h
    have h1 : 1 ≤ s.size := by rw [headB, Bool.and_eq_true] at h; exact of_decide_eq_true h.1
    rw [tailB, h, if_pos rfl]
    (conv => whnf)
    refine ⟨⟨Int.zero_le_ofNat 1, by show ((1 : Nat) : Int) ≤ _; omega⟩, ?_⟩
    (conv => whnf)
    refine ret0 ?_
    exact ⟨[], ⟨rfl, trivial⟩, trivial⟩
theorem st_CutPrefix (s : ByteArray) (c : UInt8) : FnOk Try.prog F.strings_CutPrefix [Tx s, Tx (oneB c)] [] 0 (Cut2 (tailB s c) (headB s c)) [] 0 := by
  refine fnOk tab mix G.strings_CutPrefix rfl rfl (by kernel_rfl) rfl rfl ?_
  (conv => whnf)
  refine call_i (sl_CutPrefix s c) ?_
  (conv => whnf)
  (conv => whnf)
  refine ret0 ?_
  exact ⟨[], ⟨rfl, trivial⟩, trivial⟩
end Go.Proofs.Ytoabhjflfbblfaa
