import Derived.Test.YtokfoagohblkoaaCopy
set_option linter.unusedSimpArgs false
set_option linter.unusedVariables false
set_option maxRecDepth 100000
namespace Go.Proofs.Ytokfoagohblkoaa
open Go.Cl
theorem Ss {lib : zm} (hl : lib.at 61 = none) (s : ASt) (x : Value) (l : List UInt8) (hx : Sees s 1 x l.length (zF l)) (hlen : l.length ≤ 140737488355328) :
  Runs Try.prog lib 61 [x] s fun v s' => Kz s v s' l := by
 refine Runs.enter 8 Try.func61 rfl hl rfl rfl ?_
 intro f hn hf
 have h0 : f.get 0 = x := hf 0
 clear hf
 simp -implicitDefEqProofs (disch := omega) only [allW, allR, zh, zc, zn, optA, Nat.reduceLT, Nat.reduceLeDiff, Nat.reduceEqDiff, Nat.reduceAdd, ↓reduceIte, hn, h0, hx.eql_nil Try.underlying27]
 refine qJ (fun h => ?_) (fun h => ?_)
 ·obtain ⟨h1, _, _⟩ := hx.isNil h
  have : l = [] := List.eq_nil_of_length_eq_zero h1
  subst this
  simp -implicitDefEqProofs (disch := omega) only [allW, allR, zj, zP, zh, zc, zn, optA, Nat.reduceLT, Nat.reduceLeDiff, Nat.reduceEqDiff, Nat.reduceAdd, ↓reduceIte, hn, h0, Try.results61]
  exact ⟨.nil, yb.nil _, Stay.refl _ _⟩
 ·simp -implicitDefEqProofs (disch := omega) only [allW, allR, zh, zc, zn, optA, Nat.reduceLT, Nat.reduceLeDiff, Nat.reduceEqDiff, Nat.reduceAdd, ↓reduceIte, hn, h0, Si Try.underlying27 szU8 zU8 rfl rfl]
  refine yw (by rfl) ?_
  intro b s1 hb hF hst
  simp -implicitDefEqProofs (disch := omega) only [allW, allR, zh, zc, zn, optA, Nat.reduceLT, Nat.reduceLeDiff, Nat.reduceEqDiff, Nat.reduceAdd, ↓reduceIte, hn, h0]
  refine vw Try.underlying27 Try.underlying27 (.inl ⟨_, rfl⟩) szU8 byU8 zU8 rfl hb (hx.keeps hst).src (by simp [wU]) (by decide) (Te _) (by omega) (by omega) hF hst.next ?_
  intro b' s2 hb' hF' hst' _ _
  simp -implicitDefEqProofs (disch := omega) only [allW, allR, zj, zP, zh, zc, zn, optA, Nat.reduceLT, Nat.reduceLeDiff, Nat.reduceEqDiff, Nat.reduceAdd, ↓reduceIte, hn, Try.results61]
  exact ⟨by simpa using hb', hF', hst.trans hst'⟩
end Go.Proofs.Ytokfoagohblkoaa