import Derived.Test.YthlbahnfimigcaaCosI
set_option linter.unusedSimpArgs false
set_option linter.unusedVariables false
set_option maxRecDepth 100000
namespace Go.Proofs.Ythlbahnfimigcaa
open Go.Cl Go.Lib
def Has (s : ASt) (o : O) (v : Value) (s' : ASt) : Prop := v = .bool o.has ∧ Stay s.next s s'
theorem entries_any {lib : Prims} (hl : lib.at 67 = none) (F : Nat -> Prop) (s : ASt) (cs : List Value) (o : O) (ho : OIs F s cs o) :
  Runs Try.prog lib 67 [.agg cs.toArray] s (Has s o) := by
 cases o with
 | mk kind num b l d =>
 obtain ⟨bv, lv, dv, lc, dc, rfl, -⟩ := ho.parts
 refine Runs.enter 11 Try.func67 rfl hl rfl rfl ?_
 intro f hn hf
 have h0 : f.get 0 = .agg #[.int .i64 kind, .int .i64 num, bv, lv, dv] := hf 0
 clear hf
 simp -implicitDefEqProofs (disch := omega) only [allW, allR, oneOf, evalAll, partsA, optA, Nat.reduceLT, Nat.reduceLeDiff, Nat.reduceEqDiff, Nat.reduceAdd, ↓reduceIte, hn, h0]
 refine wstep_newPtr ?_
 intro s1 ht1 hst1 hnx1
 have p0 : loadA Try.prog s1 3 (.pointer (some ⟨s.next, 0, some 6⟩)) = some (.int .i64 kind) := ht1.load agInt (off := 0) (c := 6) rfl (by simp)
 by_cases c7 : kind = 7
 ·simp -implicitDefEqProofs (disch := omega) only [allW, allR, wfn_ret, wfn_normal, oneOf, evalAll, partsA, optA, Nat.reduceLT, Nat.reduceLeDiff, Nat.reduceEqDiff, Nat.reduceAdd, ↓reduceIte, hn, h0, List.length_cons, List.length_nil, of0, p0, eq_true c7, Try.results67]
  exact ⟨by simp [O.has, O.kind, c7], hst1⟩
 ·simp -implicitDefEqProofs (disch := omega) only [allW, allR, wfn_ret, wfn_normal, oneOf, evalAll, partsA, optA, Nat.reduceLT, Nat.reduceLeDiff, Nat.reduceEqDiff, Nat.reduceAdd, ↓reduceIte, hn, h0, List.length_cons, List.length_nil, of0, p0, eq_false c7, Try.results67]
  exact ⟨by simp [O.has, O.kind, c7]; congr, hst1⟩
def NewE (s : ASt) (k : List UInt8) (o : O) (v : Value) (s' : ASt) : Prop := ∃ cs, v = .agg (.string ⟨k.toArray⟩ :: cs).toArray ∧ OIs (fun j => s.next ≤ j) s' cs o ∧ Stay s.next s s'
end Go.Proofs.Ythlbahnfimigcaa