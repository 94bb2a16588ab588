import Derived.Test.YtokfoagohblkoaaPgC
import Derived.Test.YtokfoagohblkoaaBuild
import Derived.Test.YtokfoagohblkoaaMapJ
import Derived.Test.YtokfoagohblkoaaLibR
set_option linter.unusedSimpArgs false
set_option linter.unusedVariables false
set_option maxRecDepth 100000
namespace Go.Cl
def bareC (e : Int × Int) : List Value := [.int .i64 e.1, .int .i64 e.2, .slice none 0 0, .slice none 0 0, .slice none 0 0]
def rC (l : List (Int × Int)) : List Value := l.flatMap bareC
def rO (l : List (Int × Int)) : List O := l.map fun e => .mk e.1 e.2 [] [] []
theorem rC_cons (e : Int × Int) (l : List (Int × Int)) : rC (e :: l) = bareC e ++ rC l := rfl
theorem rC_length : ∀ l : List (Int × Int), (rC l).length = l.length * 5
  | [] => rfl
  | e :: l => by rw [rC_cons, List.length_append, rC_length l, List.length_cons]; show 5 + _ = _; omega
theorem rC_row : ∀ (l : List (Int × Int)) (i : Nat) (h : i < l.length), ((rC l).drop (i * 5)).take 5 = bareC l[i]
  | e :: l, 0, _ => rfl
  | e :: l, i + 1, h => by
    rw [show (i + 1) * 5 = i * 5 + 5 by omega]
    exact rC_row l i (by simpa using h)
theorem rO_rows (F : Nat → Prop) (s : ASt) (l : List (Int × Int)) : ORows OIs 5 F s (rO l) (rC l) :=
  ⟨by rw [rC_length]; simp [rO], fun i hi => by
    have hi' : i < l.length := by simpa [rO] using hi
    rw [rC_row l i hi']
    have : (rO l)[i] = .mk l[i].1 l[i].2 [] [] [] := by simp [rO]
    rw [this]
    exact OIs.bare F s _ _⟩
theorem rO_small (l : List (Int × Int)) : ∀ x ∈ rO l, Small x := by
  intro x hx
  simp only [rO, List.mem_map] at hx
  obtain ⟨e, -, rfl⟩ := hx
  exact Small.bare _ _
namespace LB
open LA
variable {P : Program} {lib : Prims} {A : Nat → Bool} {g : Nat} {all r : List Oper} {id : Nat} {f : AFr} {T : ASt} {d : Option Tmp} {Q : AFr → ASt → Prop}
end LB
theorem resD_self {D : List (Int × O)} {o : O} (h : o.kind ≠ 9) : resD D o = o := by
  unfold resD
  rw [resN_stop h, if_neg h]
theorem box_ints (D : List (Int × O)) (a b c d : Int) : boxD D (.mk 6 0 [] (rO [(2, a), (2, b), (2, c), (2, d)]) []) = some (box4 [IntKind.i64.wrap (a * 100000), IntKind.i64.wrap (b * 100000), IntKind.i64.wrap (c * 100000), IntKind.i64.wrap (d * 100000)]) := by
  have e : resD D (.mk 6 0 [] (rO [(2, a), (2, b), (2, c), (2, d)]) []) = .mk 6 0 [] (rO [(2, a), (2, b), (2, c), (2, d)]) [] := resD_self (show (6 : Int) ≠ 9 by decide)
  have r : ∀ n, resD D (.mk 2 n [] [] []) = .mk 2 n [] [] [] := fun n => resD_self (show (2 : Int) ≠ 9 by decide)
  unfold boxD
  rw [e]
  simp [O.kind, O.items, rO, okN, valN, r, numO, O.num]
end Go.Cl
namespace Go.Proofs.Ytokfoagohblkoaa
open Go.Cl Go.Lib Go.RowKit Go.ChangeShapes Go.WideShapes
theorem rint_eq (s : ASt) (n : Int) : Runs Try.prog libN 12 [.int .i64 n] s fun v s' => v = .agg (bareC (2, n)).toArray ∧ Stay s.next s s' := by
  refine Runs.enter 5 Try.func12 rfl rfl rfl rfl ?_
  intro f hn hf
  have h0 : f.get 0 = .int .i64 n := hf 0
  clear hf
  simp (config := { maxSteps := 1000000, implicitDefEqProofs := false }) (disch := omega) only [allW, allR, oneOf, evalAll, partsA, optA, Nat.reduceLT, Nat.reduceLeDiff, Nat.reduceEqDiff, Nat.reduceAdd, ↓reduceIte, hn, zO, plO]
  refine wstep_newPtr ?_
  intro s1 ht1 hst1 hnx1
  have hd6 : noneC.length + 1 = 6 := rfl
  simp (config := { maxSteps := 1000000, implicitDefEqProofs := false }) (disch := omega) only [allW, allR, oneOf, evalAll, partsA, optA, Nat.reduceLT, Nat.reduceLeDiff, Nat.reduceEqDiff, Nat.reduceAdd, ↓reduceIte, hn, h0, hd6, bO]
  refine wstep_storeAll szO (by decide) ht1 rfl rfl rfl rfl ?_
  intro s2 ht2 hnx2 hot2
  simp (config := { maxSteps := 1000000, implicitDefEqProofs := false }) (disch := omega) only [allW, allR, wfn_ret, wfn_normal, oneOf, evalAll, partsA, optA, Nat.reduceLT, Nat.reduceLeDiff, Nat.reduceEqDiff, Nat.reduceAdd, ↓reduceIte, hn, Thing.loadO ht2 rfl, resultsA_cell, Try.results12]
  exact ⟨rfl, hst1.trans ⟨by omega, fun j hj => hot2 j (by omega)⟩⟩
theorem rref_eq (s : ASt) (n : Int) : Runs Try.prog libN 20 [.int .i64 n] s fun v s' => v = .agg (bareC (9, n)).toArray ∧ Stay s.next s s' := by
  refine Runs.enter 5 Try.func20 rfl rfl rfl rfl ?_
  intro f hn hf
  have h0 : f.get 0 = .int .i64 n := hf 0
  clear hf
  simp (config := { maxSteps := 1000000, implicitDefEqProofs := false }) (disch := omega) only [allW, allR, oneOf, evalAll, partsA, optA, Nat.reduceLT, Nat.reduceLeDiff, Nat.reduceEqDiff, Nat.reduceAdd, ↓reduceIte, hn, zO, plO]
  refine wstep_newPtr ?_
  intro s1 ht1 hst1 hnx1
  have hd6 : noneC.length + 1 = 6 := rfl
  simp (config := { maxSteps := 1000000, implicitDefEqProofs := false }) (disch := omega) only [allW, allR, oneOf, evalAll, partsA, optA, Nat.reduceLT, Nat.reduceLeDiff, Nat.reduceEqDiff, Nat.reduceAdd, ↓reduceIte, hn, h0, hd6, bO]
  refine wstep_storeAll szO (by decide) ht1 rfl rfl rfl rfl ?_
  intro s2 ht2 hnx2 hot2
  simp (config := { maxSteps := 1000000, implicitDefEqProofs := false }) (disch := omega) only [allW, allR, wfn_ret, wfn_normal, oneOf, evalAll, partsA, optA, Nat.reduceLT, Nat.reduceLeDiff, Nat.reduceEqDiff, Nat.reduceAdd, ↓reduceIte, hn, Thing.loadO ht2 rfl, resultsA_cell, Try.results20]
  exact ⟨rfl, hst1.trans ⟨by omega, fun j hj => hot2 j (by omega)⟩⟩
theorem buildR4 (s : ASt) (a b c d : Int × Int) : buildSliceA Try.prog s 28 4 [(0, .agg (bareC a).toArray), (1, .agg (bareC b).toArray), (2, .agg (bareC c).toArray), (3, .agg (bareC d).toArray)] = newSlice s (rC [a, b, c, d]) 4 5 := by
  unfold buildSliceA; rw [Try.underlying28]; simp only [szO, zO]; rfl
end Go.Proofs.Ytokfoagohblkoaa
