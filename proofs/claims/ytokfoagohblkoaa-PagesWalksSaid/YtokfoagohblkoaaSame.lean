import Derived.Test.YtokfoagohblkoaaTy
import Derived.Test.YtokfoagohblkoaaLooseB
set_option linter.unusedSimpArgs false
set_option linter.unusedVariables false
set_option maxRecDepth 100000
namespace Go.Proofs.Ytokfoagohblkoaa
open Go.Cl
theorem Sq {a b : List UInt8} {i : Nat} (ha : i < a.length) (hb : i < b.length) (h : a.take i = b.take i) (he : a.getD i 0 = b.getD i 0) : a.take (i + 1) = b.take (i + 1) := by
 rw [List.take_succ_eq_append_getElem ha, List.take_succ_eq_append_getElem hb, h]
 simp [List.getD, List.getElem?_eq_getElem ha, List.getElem?_eq_getElem hb] at he
 rw [he]
theorem Wu {lib : zm} (hl : lib.at 58 = none) (s : ASt) (x y : Value) (a b : List UInt8) (hx : Sees s 1 x a.length (zF a)) (hy : Sees s 1 y b.length (zF b)) (ha : a.length ≤ 4294967296) (hb : b.length ≤ 4294967296) :
  Runs Try.prog lib 58 [x, y] s fun v s' => v = .bool (decide (a = b)) ∧ s' = s := by
 refine Runs.enter 26 Try.func58 rfl hl rfl rfl ?_
 intro f hn hf
 have h0 : f.get 0 = x := hf 0
 have h1 : f.get 1 = y := hf 1
 clear hf
 simp only [allW, allR, zj, zP, zh, zc, zn, optA, Nat.reduceLT, Nat.reduceLeDiff, Nat.reduceEqDiff, Nat.reduceAdd, ↓reduceIte, hn, h0, h1, hx.lenA Try.underlying27, hy.lenA Try.underlying27]
 refine qJ (fun h => ?_) (fun h => ?_)
 ·simp only [allW, allR, zj, zP, zh, zc, zn, optA, Nat.reduceLT, Nat.reduceLeDiff, Nat.reduceEqDiff, Nat.reduceAdd, ↓reduceIte, hn, h0, h1, Try.results58]
  have : ¬ a = b := fun e => by subst e; simp at h
  simp [this]
 ·have hab : a.length = b.length := by simpa using h
  simp only [allW, allR, zj, zP, zh, zc, zn, optA, Nat.reduceLT, Nat.reduceLeDiff, Nat.reduceEqDiff, Nat.reduceAdd, ↓reduceIte, hn, h0, h1]
  refine yf.loopAt (fun k f s' => ∃ i : Nat, k = a.length - i ∧ i ≤ a.length ∧ a.take i = b.take i ∧ f.n = 26 ∧ f.get 0 = x ∧ f.get 1 = y ∧ f.get 5 = .int .i64 i ∧ s' = s) ⟨0, rfl, by omega, rfl, by simp only [allW, allR, zj, zP, zh, zc, zn, optA, Nat.reduceLT, Nat.reduceLeDiff, Nat.reduceEqDiff, Nat.reduceAdd, ↓reduceIte, hn], by simp only [allW, allR, zj, zP, zh, zc, zn, optA, Nat.reduceLT, Nat.reduceLeDiff, Nat.reduceEqDiff, Nat.reduceAdd, ↓reduceIte, h0], by simp only [allW, allR, zj, zP, zh, zc, zn, optA, Nat.reduceLT, Nat.reduceLeDiff, Nat.reduceEqDiff, Nat.reduceAdd, ↓reduceIte, h1], by simp only [allW, allR, zj, zP, zh, zc, zn, optA, Nat.reduceLT, Nat.reduceLeDiff, Nat.reduceEqDiff, Nat.reduceAdd, ↓reduceIte]; rfl, rfl⟩ ?_
  clear hn h0 h1 f
  rintro k f _ ⟨i, rfl, hi, heq, hn, h0, h1, h5, rfl⟩
  by_cases hlt : i < a.length
  ·simp (disch := omega) only [allW, allR, zj, zP, zh, zc, zn, optA, Nat.reduceLT, Nat.reduceLeDiff, Nat.reduceEqDiff, Nat.reduceAdd, ↓reduceIte, hn, h0, h1, h5, hx.lenA Try.underlying27, hlt, hx.indexAddr Try.underlying27 szU8, hy.indexAddr Try.underlying27 szU8, hx.load1 agU8, hy.load1 agU8, jE, hx.self, hy.self]
   refine qJ (fun h => ?_) (fun h => ?_)
   ·simp only [allW, allR, zj, zP, zh, zc, zn, optA, Nat.reduceLT, Nat.reduceLeDiff, Nat.reduceEqDiff, Nat.reduceAdd, ↓reduceIte, hn, h0, h1, Try.results58]
    have : ¬ a = b := fun e => by subst e; simp at h
    simp [this]
   ·simp (disch := omega) only [allW, allR, zj, zP, zh, zc, zn, optA, Nat.reduceLT, Nat.reduceLeDiff, Nat.reduceEqDiff, Nat.reduceAdd, ↓reduceIte, hn, h0, h1, h5, zR]
    refine zz (a.length - (i + 1)) (by omega) ⟨i + 1, rfl, by omega, ?_, by simp only [za, zf, ↓reduceIte, Nat.reduceEqDiff, hn], by simp only [za, zf, ↓reduceIte, Nat.reduceEqDiff, h0], by simp only [za, zf, ↓reduceIte, Nat.reduceEqDiff, h1], by simp only [za, zf, ↓reduceIte, Nat.reduceEqDiff]; rfl, rfl⟩
    refine Sq hlt (by omega) heq ?_
    simpa [UInt8.toNat_inj] using h
  ·simp only [allW, allR, zj, zP, zh, zc, zn, optA, Nat.reduceLT, Nat.reduceLeDiff, Nat.reduceEqDiff, Nat.reduceAdd, ↓reduceIte, hn, h0, h1, h5, hx.lenA Try.underlying27, hlt, Try.results58]
   have : a = b := by rw [List.take_of_length_le (by omega), List.take_of_length_le (by omega)] at heq; exact heq
   simp [this]
structure Kz (s : ASt) (v : Value) (s' : ASt) (l : List UInt8) : Prop where
 own : Own s' 1 v l.length (zF l)
 fresh : yb s.next v
 stay : Stay s.next s s'
theorem Sr {l : List UInt8} {i : Nat} (h : i < l.length) : l.take (i + 1) = l.take i ++ [l.getD i 0] := by
 rw [List.take_succ_eq_append_getElem h]; simp [List.getD, List.getElem?_eq_getElem h]
end Go.Proofs.Ytokfoagohblkoaa