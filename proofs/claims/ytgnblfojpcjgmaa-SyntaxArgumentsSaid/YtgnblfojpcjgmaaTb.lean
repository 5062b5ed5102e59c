/- Bytes and runes of texts. -/
import Derived.Test.YtgnblfojpcjgmaaCo2
namespace Go.Proofs.Ytgnblfojpcjgmaa
open Eng
set_option maxRecDepth 10000
attribute [local irreducible] FnOk loopW idxF retX arrF

abbrev Ru (c : Int) : SV := .one (.dv (.int .i32 c))
abbrev By (c : Int) : SV := .one (.dv (.int .u8 c))
theorem byteAt_get {s : ByteArray} {i : Nat} (h : i < s.size) : byteAt s i = ((s[i]'h).toNat : Int) := by
  unfold byteAt; rw [getElem?_pos s i h]; rfl
theorem byteAt_bd (s : ByteArray) (i : Nat) : 0 ≤ byteAt s i ∧ byteAt s i < 256 := by
  unfold byteAt
  have := (s[i]?.getD 0).toNat_lt
  omega
end Go.Proofs.Ytgnblfojpcjgmaa
