/-
  Same.
-/
import Derived.Test.YtgeochibkkopfaaTy
import Derived.Test.YtgeochibkkopfaaRul
set_option linter.unusedSimpArgs false
set_option linter.unusedVariables false
namespace Go.Proofs.Ytgeochibkkopfaa
open Go.Cl
theorem take_next {a b : List UInt8} {i : Nat} (ha : i < a.length) (hb : i < b.length) (h : a.take i = b.take i) (he : a.getD i 0 = b.getD i 0) : a.take (i + 1) = b.take (i + 1) := by
  rw [List.take_succ_eq_append_getElem ha, List.take_succ_eq_append_getElem hb, h]
  simp [List.getD, List.getElem?_eq_getElem ha, List.getElem?_eq_getElem hb] at he
  rw [he]
/-- Bytes of one's own, made since. -/
structure NewBytes (s : ASt) (v : Value) (s' : ASt) (l : List UInt8) : Prop where
  own : Own s' 1 v l.length (ofBytes l)
  fresh : Fresh s.next v
  stay : Stay s.next s s'
theorem take_snoc {l : List UInt8} {i : Nat} (h : i < l.length) : l.take (i + 1) = l.take i ++ [l.getD i 0] := by
  rw [List.take_succ_eq_append_getElem h]; simp [List.getD, List.getElem?_eq_getElem h]
end Go.Proofs.Ytgeochibkkopfaa
