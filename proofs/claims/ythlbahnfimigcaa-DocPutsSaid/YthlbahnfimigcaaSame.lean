import Derived.Test.YthlbahnfimigcaaTy
import Derived.Test.YthlbahnfimigcaaRul
set_option linter.unusedSimpArgs false
set_option linter.unusedVariables false
set_option maxRecDepth 100000
namespace Go.Proofs.Ythlbahnfimigcaa
open Go.Cl
theorem take_next {a b : List UInt8} {i : Nat} (ha : i < a.length) (hb : i < b.length) (h : a.take i = b.take i) (he : a.getD i 0 = b.getD i 0) : a.take (i + 1) = b.take (i + 1) := by
 rw [List.take_succ_eq_append_getElem ha, List.take_succ_eq_append_getElem hb, h]
 simp [List.getD, List.getElem?_eq_getElem ha, List.getElem?_eq_getElem hb] at he
 rw [he]
theorem same_any {lib : Prims} (hl : lib.at 46 = none) (s : ASt) (x y : Value) (a b : List UInt8) (hx : Sees s 1 x a.length (ofBytes a)) (hy : Sees s 1 y b.length (ofBytes b)) (ha : a.length ≤ 4294967296) (hb : b.length ≤ 4294967296) :
  Runs Try.prog lib 46 [x, y] s fun v s' => v = .bool (decide (a = b)) ∧ s' = s := by
 refine Runs.enter 26 Try.func46 rfl hl rfl rfl ?_
 intro f hn hf
 have h0 : f.get 0 = x := hf 0
 have h1 : f.get 1 = y := hf 1
 clear hf
 simp only [allW, allR, wfn_ret, wfn_normal, oneOf, evalAll, partsA, optA, Nat.reduceLT, Nat.reduceLeDiff, Nat.reduceEqDiff, Nat.reduceAdd, ↓reduceIte, hn, h0, h1, hx.lenA Try.underlying22, hy.lenA Try.underlying22]
 refine wif_cases (fun h => ?_) (fun h => ?_)
 ·simp only [allW, allR, wfn_ret, wfn_normal, oneOf, evalAll, partsA, optA, Nat.reduceLT, Nat.reduceLeDiff, Nat.reduceEqDiff, Nat.reduceAdd, ↓reduceIte, hn, h0, h1, Try.results46]
  have : ¬ a = b := fun e => by subst e; simp at h
  simp [this]
 ·have hab : a.length = b.length := by simpa using h
  simp only [allW, allR, wfn_ret, wfn_normal, oneOf, evalAll, partsA, optA, Nat.reduceLT, Nat.reduceLeDiff, Nat.reduceEqDiff, Nat.reduceAdd, ↓reduceIte, hn, h0, h1]
  refine Comes.loopAt (fun k f s' => ∃ i : Nat, k = a.length - i ∧ i ≤ a.length ∧ a.take i = b.take i ∧ f.n = 26 ∧ f.get 0 = x ∧ f.get 1 = y ∧ f.get 5 = .int .i64 i ∧ s' = s) ⟨0, rfl, by omega, rfl, by simp only [allW, allR, wfn_ret, wfn_normal, oneOf, evalAll, partsA, optA, Nat.reduceLT, Nat.reduceLeDiff, Nat.reduceEqDiff, Nat.reduceAdd, ↓reduceIte, hn], by simp only [allW, allR, wfn_ret, wfn_normal, oneOf, evalAll, partsA, optA, Nat.reduceLT, Nat.reduceLeDiff, Nat.reduceEqDiff, Nat.reduceAdd, ↓reduceIte, h0], by simp only [allW, allR, wfn_ret, wfn_normal, oneOf, evalAll, partsA, optA, Nat.reduceLT, Nat.reduceLeDiff, Nat.reduceEqDiff, Nat.reduceAdd, ↓reduceIte, h1], by simp only [allW, allR, wfn_ret, wfn_normal, oneOf, evalAll, partsA, optA, Nat.reduceLT, Nat.reduceLeDiff, Nat.reduceEqDiff, Nat.reduceAdd, ↓reduceIte]; rfl, rfl⟩ ?_
  clear hn h0 h1 f
  rintro k f _ ⟨i, rfl, hi, heq, hn, h0, h1, h5, rfl⟩
  by_cases hlt : i < a.length
  ·simp (disch := omega) only [allW, allR, wfn_ret, wfn_normal, oneOf, evalAll, partsA, optA, Nat.reduceLT, Nat.reduceLeDiff, Nat.reduceEqDiff, Nat.reduceAdd, ↓reduceIte, hn, h0, h1, h5, hx.lenA Try.underlying22, hlt, hx.indexAddr Try.underlying22 szU8, hy.indexAddr Try.underlying22 szU8, hx.load1 agU8, hy.load1 agU8, ofBytes_getD, hx.self, hy.self]
   refine wif_cases (fun h => ?_) (fun h => ?_)
   ·simp only [allW, allR, wfn_ret, wfn_normal, oneOf, evalAll, partsA, optA, Nat.reduceLT, Nat.reduceLeDiff, Nat.reduceEqDiff, Nat.reduceAdd, ↓reduceIte, hn, h0, h1, Try.results46]
    have : ¬ a = b := fun e => by subst e; simp at h
    simp [this]
   ·simp (disch := omega) only [allW, allR, wfn_ret, wfn_normal, oneOf, evalAll, partsA, optA, Nat.reduceLT, Nat.reduceLeDiff, Nat.reduceEqDiff, Nat.reduceAdd, ↓reduceIte, hn, h0, h1, h5, wrapI]
    refine wround_next (a.length - (i + 1)) (by omega) ⟨i + 1, rfl, by omega, ?_, by simp only [get_put, n_put, ↓reduceIte, Nat.reduceEqDiff, hn], by simp only [get_put, n_put, ↓reduceIte, Nat.reduceEqDiff, h0], by simp only [get_put, n_put, ↓reduceIte, Nat.reduceEqDiff, h1], by simp only [get_put, n_put, ↓reduceIte, Nat.reduceEqDiff]; rfl, rfl⟩
    refine take_next hlt (by omega) heq ?_
    simpa [UInt8.toNat_inj] using h
  ·simp only [allW, allR, wfn_ret, wfn_normal, oneOf, evalAll, partsA, optA, Nat.reduceLT, Nat.reduceLeDiff, Nat.reduceEqDiff, Nat.reduceAdd, ↓reduceIte, hn, h0, h1, h5, hx.lenA Try.underlying22, hlt, Try.results46]
   have : a = b := by rw [List.take_of_length_le (by omega), List.take_of_length_le (by omega)] at heq; exact heq
   simp [this]
structure NewBytes (s : ASt) (v : Value) (s' : ASt) (l : List UInt8) : Prop where
 own : Own s' 1 v l.length (ofBytes l)
 fresh : Fresh s.next v
 stay : Stay s.next s s'
theorem take_snoc {l : List UInt8} {i : Nat} (h : i < l.length) : l.take (i + 1) = l.take i ++ [l.getD i 0] := by
 rw [List.take_succ_eq_append_getElem h]; simp [List.getD, List.getElem?_eq_getElem h]
end Go.Proofs.Ythlbahnfimigcaa