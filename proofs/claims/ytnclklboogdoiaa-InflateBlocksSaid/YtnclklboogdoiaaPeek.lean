/-
  The reference's look at a place.
-/
import Derived.Test.YtnclklboogdoiaaSame
set_option linter.unusedSimpArgs false
set_option linter.unusedVariables false
set_option maxRecDepth 100000
namespace Go.Proofs.Ytnclklboogdoiaa
open Go.Cl
theorem peek_any {lib : Prims} (hl : lib.at 16 = none) (s : ASt) (x : Value) (l : List UInt8) (i : Nat) (hx : Sees s 1 x l.length (ofBytes l)) :
    Runs Try.prog lib 16 [x, .int .i64 i] s fun v s' => v = .int .i64 (if i < l.length then ((l.getD i 0).toNat : Int) else -1) ∧ s' = s := by
  refine Runs.enter 18 Try.func16 rfl hl rfl rfl ?_
  intro f hn hf
  have h0 : f.get 0 = x := hf 0
  have h1 : f.get 1 = .int .i64 i := hf 1
  clear hf
  have c0 : ¬ (i : Int) < 0 := by omega
  by_cases hi : i < l.length
  · have c1 : ¬ l.length ≤ i := by omega
    have hb : ((l.getD i 0).toNat : Int) < 256 := by have := (l.getD i 0).toNat_lt; omega
    simp (disch := omega) only [allW, allR, wfn_ret, wfn_normal, oneOf, evalAll, partsA, optA, Nat.reduceLT, Nat.reduceLeDiff, Nat.reduceEqDiff, Nat.reduceAdd, ↓reduceIte, hn, h0, h1, hx.lenA Try.underlying22, c0, c1, hi, hx.indexAddr Try.underlying22 szU8, hx.load1 agU8, ofBytes_getD, conv_int Try.underlying5 Try.underlying3, wrapI, Try.results16]
  · have c1 : l.length ≤ i := by omega
    simp (disch := omega) only [allW, allR, wfn_ret, wfn_normal, oneOf, evalAll, partsA, optA, Nat.reduceLT, Nat.reduceLeDiff, Nat.reduceEqDiff, Nat.reduceAdd, ↓reduceIte, hn, h0, h1, hx.lenA Try.underlying22, c0, c1, hi, Try.results16]

end Go.Proofs.Ytnclklboogdoiaa
