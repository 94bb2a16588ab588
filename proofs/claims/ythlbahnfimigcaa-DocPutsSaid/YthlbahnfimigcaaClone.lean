import Derived.Test.YthlbahnfimigcaaCopy
set_option linter.unusedSimpArgs false
set_option linter.unusedVariables false
set_option maxRecDepth 100000
namespace Go.Proofs.Ythlbahnfimigcaa
open Go.Cl
theorem clone_any {lib : Prims} (hl : lib.at 42 = none) (s : ASt) (x : Value) (l : List UInt8) (hx : Sees s 1 x l.length (ofBytes l)) (hlen : l.length ≤ 140737488355328) :
  Runs Try.prog lib 42 [x] s fun v s' => NewBytes s v s' l := by
 refine Runs.enter 8 Try.func42 rfl hl rfl rfl ?_
 intro f hn hf
 have h0 : f.get 0 = x := hf 0
 clear hf
 simp -implicitDefEqProofs (disch := omega) only [allW, allR, oneOf, evalAll, partsA, optA, Nat.reduceLT, Nat.reduceLeDiff, Nat.reduceEqDiff, Nat.reduceAdd, ↓reduceIte, hn, h0, hx.eql_nil Try.underlying22]
 refine wif_cases (fun h => ?_) (fun h => ?_)
 ·obtain ⟨h1, _, _⟩ := hx.isNil h
  have : l = [] := List.eq_nil_of_length_eq_zero h1
  subst this
  simp -implicitDefEqProofs (disch := omega) only [allW, allR, wfn_ret, wfn_normal, oneOf, evalAll, partsA, optA, Nat.reduceLT, Nat.reduceLeDiff, Nat.reduceEqDiff, Nat.reduceAdd, ↓reduceIte, hn, h0, Try.results42]
  exact ⟨.nil, Fresh.nil _, Stay.refl _ _⟩
 ·simp -implicitDefEqProofs (disch := omega) only [allW, allR, oneOf, evalAll, partsA, optA, Nat.reduceLT, Nat.reduceLeDiff, Nat.reduceEqDiff, Nat.reduceAdd, ↓reduceIte, hn, h0, build0 Try.underlying22 szU8 zU8 rfl rfl]
  refine wstep_newSlice (by rfl) ?_
  intro b s1 hb hF hst
  simp -implicitDefEqProofs (disch := omega) only [allW, allR, oneOf, evalAll, partsA, optA, Nat.reduceLT, Nat.reduceLeDiff, Nat.reduceEqDiff, Nat.reduceAdd, ↓reduceIte, hn, h0]
  refine wstep_append Try.underlying22 Try.underlying22 (.inl ⟨_, rfl⟩) szU8 byU8 zU8 rfl hb (hx.keeps hst).src (by simp [ofBytes_length]) (by decide) (ofBytes_ok _) (by omega) (by omega) hF hst.next ?_
  intro b' s2 hb' hF' hst' _ _
  simp -implicitDefEqProofs (disch := omega) only [allW, allR, wfn_ret, wfn_normal, oneOf, evalAll, partsA, optA, Nat.reduceLT, Nat.reduceLeDiff, Nat.reduceEqDiff, Nat.reduceAdd, ↓reduceIte, hn, Try.results42]
  exact ⟨by simpa using hb', hF', hst.trans hst'⟩
end Go.Proofs.Ythlbahnfimigcaa