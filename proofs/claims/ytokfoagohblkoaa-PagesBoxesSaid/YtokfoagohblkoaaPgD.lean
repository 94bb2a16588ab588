import Derived.Test.YtokfoagohblkoaaPgC
import Derived.Test.YtokfoagohblkoaaBuild
import Derived.Test.YtokfoagohblkoaaMapJ
import Derived.Test.YtokfoagohblkoaaLibR
set_option linter.unusedSimpArgs false
set_option linter.unusedVariables false
set_option maxRecDepth 100000
namespace Go.Cl
def bareC (e : Int × Int) : List Value := [.int .i64 e.1, .int .i64 e.2, .slice none 0 0, .slice none 0 0, .slice none 0 0]
def rC (l : List (Int × Int)) : List Value := l.flatMap bareC
def rO (l : List (Int × Int)) : List O := l.map fun e => .mk e.1 e.2 [] [] []
theorem rC_cons (e : Int × Int) (l : List (Int × Int)) : rC (e :: l) = bareC e ++ rC l := rfl
theorem rC_length : ∀ l : List (Int × Int), (rC l).length = l.length * 5
  | [] => rfl
  | e :: l => by rw [rC_cons, List.length_append, rC_length l, List.length_cons]; show 5 + _ = _; omega
theorem rC_row : ∀ (l : List (Int × Int)) (i : Nat) (h : i < l.length), ((rC l).drop (i * 5)).take 5 = bareC l[i]
  | e :: l, 0, _ => rfl
  | e :: l, i + 1, h => by
    rw [show (i + 1) * 5 = i * 5 + 5 by omega]
    exact rC_row l i (by simpa using h)
theorem rO_rows (F : Nat → Prop) (s : ASt) (l : List (Int × Int)) : ORows OIs 5 F s (rO l) (rC l) :=
  ⟨by rw [rC_length]; simp [rO], fun i hi => by
    have hi' : i < l.length := by simpa [rO] using hi
    rw [rC_row l i hi']
    have : (rO l)[i] = .mk l[i].1 l[i].2 [] [] [] := by simp [rO]
    rw [this]
    exact OIs.bare F s _ _⟩
theorem rO_small (l : List (Int × Int)) : ∀ x ∈ rO l, Small x := by
  intro x hx
  simp only [rO, List.mem_map] at hx
  obtain ⟨e, -, rfl⟩ := hx
  exact Small.bare _ _
def mixR (k : Int) (vs : List Int) (i : Nat) : List (Int × Int) := (List.range 4).map fun j => if j < i then (k, vs.getD j 0) else (0, 0)
theorem mixR_set (k : Int) (vs : List Int) {i : Nat} (h : i < 4) : over (rC (mixR k vs i)) (i * 5) (bareC (k, vs.getD i 0)) = rC (mixR k vs (i + 1)) := by
  have : i = 0 ∨ i = 1 ∨ i = 2 ∨ i = 3 := by omega
  rcases this with rfl | rfl | rfl | rfl <;> rfl
theorem mixR_four (k : Int) (a b c d : Int) : mixR k [a, b, c, d] 4 = [(k, a), (k, b), (k, c), (k, d)] := rfl
namespace LB
open LA
variable {P : Program} {lib : Prims} {A : Nat → Bool} {g : Nat} {all r : List Oper} {id : Nat} {f : AFr} {T : ASt} {d : Option Tmp} {Q : AFr → ASt → Prop}
theorem sstep_storeAgg {e : TypeId} {z : Nat} (hsz : sizeB P e = some z) (hz0 : 0 < z) {v : Value} {n : Nat} {l : List Value} (h : Own T z v n l) {k : Nat} (hk : k < n) {vs : Array Value} (hm : vs.toList.length = z) (hok : vs.toList.all okCell = true) (hA1 : g ≠ 0 → ∀ i, idOf v = some i → A i = false) (hA2 : ∀ i, A i = true → i < T.next)
    (K : ∀ T', Own T' z v n (over l (k * z) vs.toList) → Turns v T T' → scall P lib A (g - 1) all r id f d Q undef T') : sstep P lib A g all r id f d T Q (uOf (storeA P T e (elemPtr z v k) (.agg vs))) := by
  obtain ⟨s', h1, h2, h3⟩ := h.putElem hsz hz0 hk hm hok
  rw [h1, uOf_some, sstep_val]
  exact ⟨fun hg => ⟨h3.next, fun i hi => h3.get i (hA2 i hi) (fun e => by have := hA1 hg i e; rw [hi] at this; cases this)⟩, K s' h2 h3⟩
end LB
theorem wstep_newPtrW {P : Program} {lib : Prims} {all r : List Oper} {f : AFr} {s : ASt} {d : Option Tmp} {Q : AFr → ASt → Prop} {cs : List Value} {z : Nat} (hw : WF s) (K : ∀ s', Thing s' s.next cs → Stay s.next s s' → s'.next = s.next + 1 → WF s' → wstep P lib all r f s d Q (some (.val (.pointer (some ⟨s.next, 0, some (cs.length + 1)⟩)) s'))) : wstep P lib all r f s d Q (pOf (newPtr s cs z)) := by
  have : newPtr s cs z = some (.pointer (some ⟨s.next, 0, some (cs.length + 1)⟩), s.new (.blk ⟨cs, 1, true, z⟩)) := by simp [newPtr, ASt.room]
  rw [this, pOf_some]
  refine K _ ⟨by rw [next_new]; omega, 1, z, blk_new _ _, by omega⟩ (Stay.new _ _) rfl ⟨by omega, fun j o hj => ?_⟩
  by_cases h : j < s.next
  · rw [next_new]; omega
  · by_cases e : j = s.next
    · rw [next_new]; omega
    · exact absurd (hw.bound j o (by rw [← hj]; exact (Tr.get_set_ne _ _ _ _ _ (Ne.symm e)).symm)) h
theorem resD_self {D : List (Int × O)} {o : O} (h : o.kind ≠ 9) : resD D o = o := by
  unfold resD
  rw [resN_stop h, if_neg h]
theorem minI_comm (a b : Int) : minI a b = minI b a := by unfold minI; split <;> split <;> omega
theorem maxI_comm (a b : Int) : maxI a b = maxI b a := by unfold maxI; split <;> split <;> omega
theorem minI_le (a b : Int) : minI a b ≤ maxI a b := by unfold minI maxI; split <;> split <;> omega
theorem box_ints (D : List (Int × O)) (a b c d : Int) : boxD D (.mk 6 0 [] (rO [(2, a), (2, b), (2, c), (2, d)]) []) = some (box4 [IntKind.i64.wrap (a * 100000), IntKind.i64.wrap (b * 100000), IntKind.i64.wrap (c * 100000), IntKind.i64.wrap (d * 100000)]) := by
  have e : resD D (.mk 6 0 [] (rO [(2, a), (2, b), (2, c), (2, d)]) []) = .mk 6 0 [] (rO [(2, a), (2, b), (2, c), (2, d)]) [] := resD_self (show (6 : Int) ≠ 9 by decide)
  have r : ∀ n, resD D (.mk 2 n [] [] []) = .mk 2 n [] [] [] := fun n => resD_self (show (2 : Int) ≠ 9 by decide)
  unfold boxD
  rw [e]
  simp [O.kind, O.items, rO, okN, valN, r, numO, O.num]
def twoD (a b c d : Int) : List (Int × O) := [(1, .mk 3 a [] [] []), (2, .mk 6 0 [] [.mk 9 1 [] [] [], .mk 3 b [] [] [], .mk 3 c [] [] [], .mk 3 d [] [] []] [])]
theorem box_two (a b c d : Int) : boxD (twoD a b c d) (.mk 9 2 [] [] []) = some (box4 [a, b, c, d]) := by
  have e : resD (twoD a b c d) (.mk 9 2 [] [] []) = .mk 6 0 [] [.mk 9 1 [] [] [], .mk 3 b [] [] [], .mk 3 c [] [] [], .mk 3 d [] [] []] [] := rfl
  have e1 : resD (twoD a b c d) (.mk 9 1 [] [] []) = .mk 3 a [] [] [] := rfl
  have r : ∀ n, resD (twoD a b c d) (.mk 3 n [] [] []) = .mk 3 n [] [] [] := fun n => resD_self (show (3 : Int) ≠ 9 by decide)
  unfold boxD
  rw [e]
  simp [O.kind, O.items, okN, valN, r, e1, numO, O.num]
theorem box_three (D : List (Int × O)) (a b c : Int × Int) : boxD D (.mk 6 0 [] (rO [a, b, c]) []) = none := by
  have e : resD D (.mk 6 0 [] (rO [a, b, c]) []) = .mk 6 0 [] (rO [a, b, c]) [] := resD_self (show (6 : Int) ≠ 9 by decide)
  unfold boxD
  rw [e, if_neg]
  simp [O.items, rO]
end Go.Cl
namespace Go.Proofs.Ytokfoagohblkoaa
open Go.Cl Go.Lib Go.RowKit Go.ChangeShapes Go.WideShapes
theorem rint_eq (s : ASt) (n : Int) : Runs Try.prog libN 12 [.int .i64 n] s fun v s' => v = .agg (bareC (2, n)).toArray ∧ Stay s.next s s' := by
  refine Runs.enter 5 Try.func12 rfl rfl rfl rfl ?_
  intro f hn hf
  have h0 : f.get 0 = .int .i64 n := hf 0
  clear hf
  simp (config := { maxSteps := 1000000, implicitDefEqProofs := false }) (disch := omega) only [allW, allR, oneOf, evalAll, partsA, optA, Nat.reduceLT, Nat.reduceLeDiff, Nat.reduceEqDiff, Nat.reduceAdd, ↓reduceIte, hn, zO, plO]
  refine wstep_newPtr ?_
  intro s1 ht1 hst1 hnx1
  have hd6 : noneC.length + 1 = 6 := rfl
  simp (config := { maxSteps := 1000000, implicitDefEqProofs := false }) (disch := omega) only [allW, allR, oneOf, evalAll, partsA, optA, Nat.reduceLT, Nat.reduceLeDiff, Nat.reduceEqDiff, Nat.reduceAdd, ↓reduceIte, hn, h0, hd6, bO]
  refine wstep_storeAll szO (by decide) ht1 rfl rfl rfl rfl ?_
  intro s2 ht2 hnx2 hot2
  simp (config := { maxSteps := 1000000, implicitDefEqProofs := false }) (disch := omega) only [allW, allR, wfn_ret, wfn_normal, oneOf, evalAll, partsA, optA, Nat.reduceLT, Nat.reduceLeDiff, Nat.reduceEqDiff, Nat.reduceAdd, ↓reduceIte, hn, Thing.loadO ht2 rfl, resultsA_cell, Try.results12]
  exact ⟨rfl, hst1.trans ⟨by omega, fun j hj => hot2 j (by omega)⟩⟩
theorem rref_eq (s : ASt) (n : Int) : Runs Try.prog libN 20 [.int .i64 n] s fun v s' => v = .agg (bareC (9, n)).toArray ∧ Stay s.next s s' := by
  refine Runs.enter 5 Try.func20 rfl rfl rfl rfl ?_
  intro f hn hf
  have h0 : f.get 0 = .int .i64 n := hf 0
  clear hf
  simp (config := { maxSteps := 1000000, implicitDefEqProofs := false }) (disch := omega) only [allW, allR, oneOf, evalAll, partsA, optA, Nat.reduceLT, Nat.reduceLeDiff, Nat.reduceEqDiff, Nat.reduceAdd, ↓reduceIte, hn, zO, plO]
  refine wstep_newPtr ?_
  intro s1 ht1 hst1 hnx1
  have hd6 : noneC.length + 1 = 6 := rfl
  simp (config := { maxSteps := 1000000, implicitDefEqProofs := false }) (disch := omega) only [allW, allR, oneOf, evalAll, partsA, optA, Nat.reduceLT, Nat.reduceLeDiff, Nat.reduceEqDiff, Nat.reduceAdd, ↓reduceIte, hn, h0, hd6, bO]
  refine wstep_storeAll szO (by decide) ht1 rfl rfl rfl rfl ?_
  intro s2 ht2 hnx2 hot2
  simp (config := { maxSteps := 1000000, implicitDefEqProofs := false }) (disch := omega) only [allW, allR, wfn_ret, wfn_normal, oneOf, evalAll, partsA, optA, Nat.reduceLT, Nat.reduceLeDiff, Nat.reduceEqDiff, Nat.reduceAdd, ↓reduceIte, hn, Thing.loadO ht2 rfl, resultsA_cell, Try.results20]
  exact ⟨rfl, hst1.trans ⟨by omega, fun j hj => hot2 j (by omega)⟩⟩
theorem szI32 : sizeB Try.prog 21 = some 1 := by kernel_rfl
theorem agI32 : isAggB Try.prog 21 = some false := by kernel_rfl
theorem byObj : bytesB Try.prog 31 = some 88 := by kernel_rfl
theorem makeFour (s : ASt) : makeSliceA Try.prog s 28 (.int .i64 4) (.int .i64 4) = newSlice s (noneC ++ noneC ++ noneC ++ noneC) 4 5 := by
  show (match Try.prog.underlying 28, Value.int .i64 (Int.ofNat 4), Value.int .i64 (Int.ofNat 4) with
  | some (.slice e), .int _ (.ofNat l), .int _ (.ofNat c) =>
    match sizeB Try.prog e, zeroB Try.prog e, bytesB Try.prog e with
    | some n, some z, some by8 =>
      if Nat.ble l c && Nat.ble c 4294967296 && Nat.ble (by8 * c) 4294967296 && plainV z && Nat.beq z.cells.toList.length n then newSlice s (repeatL z.cells.toList l) l n else none
    | _, _, _ => none
  | _, _, _ => none) = _
  rw [Try.underlying28]
  simp only [szO, zO, byObj]
  rfl
theorem buildR4 (s : ASt) (a b c d : Int × Int) : buildSliceA Try.prog s 28 4 [(0, .agg (bareC a).toArray), (1, .agg (bareC b).toArray), (2, .agg (bareC c).toArray), (3, .agg (bareC d).toArray)] = newSlice s (rC [a, b, c, d]) 4 5 := by
  unfold buildSliceA; rw [Try.underlying28]; simp only [szO, zO]; rfl
set_option maxRecDepth 100000 in
theorem awake1 : answersTrue (acall Try.prog libN 1000000 7 [] ⟨.nil, 1⟩) = true := by kernel_rfl
end Go.Proofs.Ytokfoagohblkoaa
