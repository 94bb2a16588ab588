import Derived.Test.YtokfoagohblkoaaDocM
import Derived.Test.YtokfoagohblkoaaLibR
set_option linter.unusedSimpArgs false
set_option linter.unusedVariables false
set_option maxRecDepth 100000
namespace Go.Cl
def numO (o : O) : Int × Bool := if o.kind = 2 then (IntKind.i64.wrap (o.num * 100000), true) else if o.kind = 3 then (o.num, true) else (0, false)
def valN (D : List (Int × O)) (x : O) : Int := (numO (resD D x)).1
def okN (D : List (Int × O)) (x : O) : Bool := (numO (resD D x)).2
def minI (a b : Int) : Int := if b < a then b else a
def maxI (a b : Int) : Int := if b > a then b else a
def box4 (l : List Int) : List Int := [minI (l.getD 0 0) (l.getD 2 0), minI (l.getD 1 0) (l.getD 3 0), maxI (l.getD 0 0) (l.getD 2 0), maxI (l.getD 1 0) (l.getD 3 0)]
def boxD (D : List (Int × O)) (o : O) : Option (List Int) :=
  if (resD D o).kind = 6 ∧ (resD D o).items.length = 4 ∧ (resD D o).items.all (okN D) = true then some (box4 ((resD D o).items.map (valN D))) else none
def i64V (l : List Int) : List Value := l.map (.int .i64)
end Go.Cl
namespace Go.Proofs.Ytokfoagohblkoaa
open Go.Cl Go.Lib
theorem pnum_any (F : Nat → Prop) (s : ASt) (cs : List Value) (o : O) (ho : OIs F s cs o) :
    Runs Try.prog libN 28 [.agg cs.toArray] s fun v s' => v = .tuple #[.int .i64 (numO o).1, .bool (numO o).2] ∧ Stay s.next s s' := by
  have hol := ho.len
  refine Runs.enter 15 Try.func28 rfl rfl rfl rfl ?_
  intro f hn hf
  have h0 : f.get 0 = .agg cs.toArray := hf 0
  clear hf
  simp (config := { maxSteps := 1000000, implicitDefEqProofs := false }) (disch := omega) only [allW, allR, oneOf, evalAll, partsA, optA, Nat.reduceLT, Nat.reduceLeDiff, Nat.reduceEqDiff, Nat.reduceAdd, ↓reduceIte, hn, h0]
  refine wstep_newPtr ?_
  intro s1 ht hst hnx
  have ht : Thing s1 s.next cs := ht
  have lk : loadA Try.prog s1 3 (.pointer (some ⟨s.next, 0, some 6⟩)) = some (.int .i64 o.kind) := by
    rw [ht.load (P := Try.prog) agInt (off := 0) (c := 6) (by rw [hol]) (by omega), ho.kindC.1]
  have ln : loadA Try.prog s1 2 (.pointer (some ⟨s.next, 1, some 6⟩)) = some (.int .i64 o.num) := by
    rw [ht.load (P := Try.prog) agI64 (off := 1) (c := 6) (by rw [hol]) (by omega), ho.kindC.2]
  by_cases c2 : o.kind = 2
  · simp (config := { maxSteps := 1000000, implicitDefEqProofs := false }) (disch := omega) only [allW, allR, wfn_ret, wfn_normal, oneOf, evalAll, partsA, optA, Nat.reduceLT, Nat.reduceLeDiff, Nat.reduceEqDiff, Nat.reduceAdd, ↓reduceIte, undef, hn, h0, hol, of0, of1, lk, ln, c2, decide_true, Try.results28]
    unfold numO
    rw [if_pos c2]
    exact ⟨rfl, hst⟩
  by_cases c3 : o.kind = 3
  · simp (config := { maxSteps := 1000000, implicitDefEqProofs := false }) (disch := omega) only [allW, allR, wfn_ret, wfn_normal, oneOf, evalAll, partsA, optA, Nat.reduceLT, Nat.reduceLeDiff, Nat.reduceEqDiff, Nat.reduceAdd, ↓reduceIte, undef, hn, h0, hol, of0, of1, lk, ln, c3, bin_eql, decide_eq_false (show ¬ (3 : Int) = 2 by decide), decide_true, Try.results28]
    unfold numO
    rw [if_neg c2, if_pos c3]
    exact ⟨rfl, hst⟩
  simp (config := { maxSteps := 1000000, implicitDefEqProofs := false }) (disch := omega) only [allW, allR, wfn_ret, wfn_normal, oneOf, evalAll, partsA, optA, Nat.reduceLT, Nat.reduceLeDiff, Nat.reduceEqDiff, Nat.reduceAdd, ↓reduceIte, undef, hn, h0, hol, of0, of1, lk, ln, bin_eql, decide_eq_false c2, decide_eq_false c3, Try.results28]
  unfold numO
  rw [if_neg c2, if_neg c3]
  exact ⟨rfl, hst⟩
end Go.Proofs.Ytokfoagohblkoaa
