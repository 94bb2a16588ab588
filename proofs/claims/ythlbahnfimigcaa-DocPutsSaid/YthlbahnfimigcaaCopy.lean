import Derived.Test.YthlbahnfimigcaaSame
set_option linter.unusedSimpArgs false
set_option linter.unusedVariables false
set_option maxRecDepth 100000
namespace Go.Proofs.Ythlbahnfimigcaa
open Go.Cl
theorem copy_any {lib : Prims} (hl : lib.at 44 = none) (s : ASt) (x : Value) (a : List UInt8) (hx : Sees s 1 x a.length (ofBytes a)) (ha : a.length ≤ 4294967296) :
  Runs Try.prog lib 44 [x] s fun v s' => NewBytes s v s' a := by
 refine Runs.enter 19 Try.func44 rfl hl rfl rfl ?_
 intro f hn hf
 have h0 : f.get 0 = x := hf 0
 clear hf
 simp only [allW, allR, wfn_ret, wfn_normal, oneOf, evalAll, partsA, optA, Nat.reduceLT, Nat.reduceLeDiff, Nat.reduceEqDiff, Nat.reduceAdd, ↓reduceIte, hn, h0]
 refine Comes.loopAt (fun k f s' => ∃ (i : Nat) (o : Value), k = a.length - i ∧ i ≤ a.length ∧ Own s' 1 o i (ofBytes (a.take i)) ∧ Fresh s.next o ∧ Stay s.next s s' ∧ f.n = 19 ∧ f.get 0 = x ∧ f.get 4 = .int .i64 i ∧ f.get 3 = o) ⟨0, _, rfl, by omega, .nil, Fresh.nil _, Stay.refl _ _, by simp only [get_put, n_put, ↓reduceIte, Nat.reduceEqDiff, hn], by simp only [get_put, n_put, ↓reduceIte, Nat.reduceEqDiff, h0], by simp only [get_put, n_put, ↓reduceIte, Nat.reduceEqDiff]; rfl, by simp only [get_put, n_put, ↓reduceIte, Nat.reduceEqDiff]⟩ ?_
 clear hn h0 f
 rintro k f s1 ⟨i, o, rfl, hi, ho, hfr, hst, hn, h0, h4, h3⟩
 have hx1 := hx.keeps hst
 by_cases hlt : i < a.length
 ·simp (disch := omega) only [allW, allR, wfn_ret, wfn_normal, oneOf, evalAll, partsA, optA, Nat.reduceLT, Nat.reduceLeDiff, Nat.reduceEqDiff, Nat.reduceAdd, ↓reduceIte, hn, h0, h4, h3, hlt, hx1.lenA Try.underlying22, hx1.indexAddr Try.underlying22 szU8, hx1.load1 agU8, ofBytes_getD, build1 Try.underlying22 szU8 zU8]
  refine wstep_append_lit Try.underlying22 szU8 byU8 zU8 rfl ho (by simp only [get_put, n_put, ↓reduceIte, Nat.reduceEqDiff, h3]) (by decide) (by simp only [get_put, n_put, ↓reduceIte, Nat.reduceEqDiff, hn]; decide) (by simp only [get_put, n_put, ↓reduceIte, Nat.reduceEqDiff, hn]; decide) rfl (by decide) rfl (by omega) (by omega) hfr hst.next ?_
  intro bs o' s2 ho' hfr' hst' _ _
  simp (disch := omega) only [allW, allR, wfn_ret, wfn_normal, oneOf, evalAll, partsA, optA, Nat.reduceLT, Nat.reduceLeDiff, Nat.reduceEqDiff, Nat.reduceAdd, ↓reduceIte, hn, h0, h4, wrapI]
  refine wround_next (a.length - (i + 1)) (by omega) ⟨i + 1, o', rfl, by omega, ?_, hfr', hst.trans hst', by simp only [get_put, n_put, ↓reduceIte, Nat.reduceEqDiff, hn], by simp only [get_put, n_put, ↓reduceIte, Nat.reduceEqDiff, h0], by simp only [get_put, n_put, ↓reduceIte, Nat.reduceEqDiff]; rfl, by simp only [get_put, n_put, ↓reduceIte, Nat.reduceEqDiff]⟩
  rw [take_snoc hlt, ofBytes_append]; exact ho'
 ·simp (disch := omega) only [allW, allR, wfn_ret, wfn_normal, oneOf, evalAll, partsA, optA, Nat.reduceLT, Nat.reduceLeDiff, Nat.reduceEqDiff, Nat.reduceAdd, ↓reduceIte, hn, h0, h4, h3, hlt, hx1.lenA Try.underlying22, Try.results44]
  obtain rfl : i = a.length := by omega
  rw [List.take_of_length_le (Nat.le_refl _)] at ho
  exact ⟨ho, hfr, hst⟩
end Go.Proofs.Ythlbahnfimigcaa