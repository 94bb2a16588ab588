import Derived.Test.YtokfoagohblkoaaCosE
import Derived.Test.YtokfoagohblkoaaObjT
import Derived.Test.YtokfoagohblkoaaClearW
set_option linter.unusedSimpArgs false
set_option linter.unusedVariables false
set_option maxRecDepth 100000
namespace Go.Cl
theorem aop_makeFunc {P : Program} {d : Option Tmp} {ty : TypeId} {ps : String} {af : Array Edge} {gd : Option (Nat × Bool)} {f : AFr} {s : ASt} (g : FuncId) (xs bs : Array Operand) : aop P ⟨d, .makeFunc (.func g) xs bs, ty, ps, af, gd⟩ f s = match evalAll f xs.toList, evalAll f bs.toList with
    | some l, some m => some (.val (.func (.func g) l.toArray m.toArray) s)
    | _, _ => none := rfl
def FirstAt (p : Nat → Bool) (n : Nat) (r : Int) : Prop := (r = -1 ∧ ∀ i, i < n → p i = false) ∨ ∃ k, k < n ∧ r = (k : Nat) ∧ p k = true ∧ ∀ i, i < k → p i = false
end Go.Cl
namespace Go.Proofs.Ytokfoagohblkoaa
open Go.Cl Go.Lib
end Go.Proofs.Ytokfoagohblkoaa
namespace Go.Cl
end Go.Cl
namespace Go.Proofs.Ytokfoagohblkoaa
open Go.Cl
def Cloned (s : ASt) (n : Nat) (lx : List Value) (v : Value) (s' : ASt) : Prop := Own s' 6 v n lx ∧ Fresh s.next v ∧ Stay s.next s s'
theorem cloneE {lib : Prims} (hl : lib.at 71 = none) (s : ASt) (x : Value) (n : Nat) (lx : List Value) (hx : Sees s 6 x n lx) (hn4 : n ≤ 1000000) (hok : lx.all okCell = true) :
    Runs Try.prog lib 71 [x] s (Cloned s n lx) := by
  refine Runs.enter 8 Try.func71 rfl hl rfl rfl ?_
  intro f hn hf
  have h0 : f.get 0 = x := hf 0
  clear hf
  simp (config := { maxSteps := 1000000, implicitDefEqProofs := false }) (disch := omega) only [allW, allR, oneOf, evalAll, partsA, optA, Nat.reduceLT, Nat.reduceLeDiff, Nat.reduceEqDiff, Nat.reduceAdd, ↓reduceIte, hn, h0, hx.eql_nil Try.underlying29]
  refine wif_cases (fun h => ?_) (fun h => ?_)
  · obtain ⟨h1, h2, _⟩ := hx.isNil h
    subst h1
    have : lx = [] := List.eq_nil_of_length_eq_zero (by have := hx.length; omega)
    subst this
    simp (config := { maxSteps := 1000000, implicitDefEqProofs := false }) (disch := omega) only [allW, allR, wfn_ret, wfn_normal, oneOf, evalAll, partsA, optA, Nat.reduceLT, Nat.reduceLeDiff, Nat.reduceEqDiff, Nat.reduceAdd, ↓reduceIte, hn, h0, Try.results71]
    exact ⟨.nil, Fresh.nil _, Stay.refl _ _⟩
  · simp (config := { maxSteps := 1000000, implicitDefEqProofs := false }) (disch := omega) only [allW, allR, oneOf, evalAll, partsA, optA, Nat.reduceLT, Nat.reduceLeDiff, Nat.reduceEqDiff, Nat.reduceAdd, ↓reduceIte, hn, h0, build0 Try.underlying29 szE zE plE rfl]
    refine wstep_newSlice (by rfl) ?_
    intro b s1 hb hF hst
    simp (config := { maxSteps := 1000000, implicitDefEqProofs := false }) (disch := omega) only [allW, allR, oneOf, evalAll, partsA, optA, Nat.reduceLT, Nat.reduceLeDiff, Nat.reduceEqDiff, Nat.reduceAdd, ↓reduceIte, hn, h0]
    refine wstep_append Try.underlying29 Try.underlying29 (.inl ⟨_, rfl⟩) szE byE zE rfl hb (hx.keeps hst).src hx.length (by decide) hok (by omega) (by omega) hF hst.next ?_
    intro b' s2 hb' hF' hst' _ _
    simp (config := { maxSteps := 1000000, implicitDefEqProofs := false }) (disch := omega) only [allW, allR, wfn_ret, wfn_normal, oneOf, evalAll, partsA, optA, Nat.reduceLT, Nat.reduceLeDiff, Nat.reduceEqDiff, Nat.reduceAdd, ↓reduceIte, hn, Try.results71]
    exact ⟨by simpa using hb', hF', hst.trans hst'⟩
end Go.Proofs.Ytokfoagohblkoaa
namespace Go.Cl
theorem Turns.trans {v : Value} {s s' s'' : ASt} (h : Turns v s s') (k : Turns v s' s'') : Turns v s s'' :=
  ⟨Nat.le_trans h.next k.next, fun i hi hne => (k.get i (Nat.lt_of_lt_of_le hi h.next) hne).trans (h.get i hi hne)⟩
end Go.Cl
namespace Go.Proofs.Ytokfoagohblkoaa
open Go.Cl
end Go.Proofs.Ytokfoagohblkoaa
