/-
  The statement PagesBoxes: a box is the same by whichever two corners it is told, of whole numbers and of parts alike: the law returns true.
  Conditions: none.
-/
import Derived.Test.YtokfoagohblkoaaRows
import Derived.Test.YtokfoagohblkoaaPgD
import Derived.Test.YtokfoagohblkoaaDocJ
import Derived.Test.YtokfoagohblkoaaArr
import Derived.Test.YtokfoagohblkoaaLibR
set_option linter.unusedSimpArgs false
set_option linter.unusedVariables false
set_option maxRecDepth 100000
namespace Go.Proofs.Ytokfoagohblkoaa.pagesBoxes
open Go.ChangeShapes Go.WideShapes Go.ChangeAt Go.RowKit Go.Cl Go.Lib
def D0 : Dc := ⟨0, [], 0, O.none, []⟩
theorem bD0 : buildA Try.prog 34 [] = some (.agg (docC D0 (.slice none 0 0) noneC (.slice none 0 0)).toArray) := by kernel_rfl
theorem noneIs (F : Nat → Prop) (s : ASt) : DocIs F s (.slice none 0 0) noneC (.slice none 0 0) [] D0 := ⟨.nil, Foot.nil _, OIs.none F s, .nil, Foot.nil _, ORows.nil⟩
theorem noneSmall : SmallD D0 := ⟨by decide, by decide, Small.none, (fun e h => by cases h), by simp [D0, O.none, nodesO_mk]⟩
def D1 (a b c d : Int) : Dc := ⟨0, [], 0, O.none, twoD a b c d⟩
theorem bDocI (a : Option Addr) (n c : Nat) : buildA Try.prog 34 [(4, .slice a n c)] = some (.agg (.int .i64 0 :: .slice none 0 0 :: .int .i64 0 :: (noneC ++ [.slice a n c])).toArray) := by kernel_rfl
theorem smallTwo (a b c d : Int) : SmallD (D1 a b c d) := by
  have s2 : Small (.mk 6 0 [] (rO [(9, 1), (3, b), (3, c), (3, d)]) []) := .mk (by simp) (by simp [rO]) (by simp) (fun e h => by cases h) (rO_small _) (fun e h => by cases h)
  refine ⟨by simp [D1], by simp [D1, twoD], Small.none, ?_, by simp [D1, twoD, O.none, nodesO_mk]⟩
  intro e he
  simp only [D1, twoD, List.mem_cons, List.not_mem_nil, or_false] at he
  rcases he with rfl | rfl
  · exact Small.bare 3 a
  · exact s2
theorem docSelf (a : Option Addr) (n c : Nat) (h : valEq1 (.slice a n c) (.slice a n c) = true) : valEq (.agg (.int .i64 0 :: .slice none 0 0 :: .int .i64 0 :: (noneC ++ [.slice a n c])).toArray) (.agg (.int .i64 0 :: .slice none 0 0 :: .int .i64 0 :: (noneC ++ [.slice a n c])).toArray) = true := by
  have h0 : valEq1 (.slice none 0 0) (.slice none 0 0) = true := rfl
  have hi : ∀ k n, valEq1 (.int k n) (.int k n) = true := fun k n => by simp [valEq1]
  show valEqL [.int .i64 0, .slice none 0 0, .int .i64 0, .int .i64 0, .int .i64 0, .slice none 0 0, .slice none 0 0, .slice none 0 0, .slice a n c] [.int .i64 0, .slice none 0 0, .int .i64 0, .int .i64 0, .int .i64 0, .slice none 0 0, .slice none 0 0, .slice none 0 0, .slice a n c] = true
  simp only [valEqL, h0, hi, h, Bool.and_self]
theorem boxSelf (a b c d : Int) : valEq (.agg (i64V [a, b, c, d]).toArray) (.agg (i64V [a, b, c, d]).toArray) = true := by
  have hi : ∀ k n, valEq1 (.int k n) (.int k n) = true := fun k n => by simp [valEq1]
  show valEqL [.int .i64 a, .int .i64 b, .int .i64 c, .int .i64 d] [.int .i64 a, .int .i64 b, .int .i64 c, .int .i64 d] = true
  simp only [valEqL, hi, Bool.and_self]
theorem boxEq (a b c d : Int) : binA Try.prog .eql 37 (.agg (i64V [a, b, c, d]).toArray) (.agg (i64V [a, b, c, d]).toArray) = some (.bool true) := by
  have g : Try.prog.eqGuardType Try.prog.depth 37 = false := by kernel_rfl
  have h : arrEqA Try.prog 37 (i64V [a, b, c, d]).toArray (i64V [a, b, c, d]).toArray = some true := by
    unfold arrEqA
    rw [Try.underlying37]
    simp only [Try.underlying2, szI64, g]
    simp [i64V, intsEqA]
  show (match arrEqA Try.prog 37 (i64V [a, b, c, d]).toArray (i64V [a, b, c, d]).toArray with
    | some b => some (Value.bool b)
    | none => none) = _
  rw [h]
theorem itSelf (n : Int) {cs : List Value} (h : valEq (.agg cs.toArray) (.agg cs.toArray) = true) : valEq (.agg (.int .i64 n :: cs).toArray) (.agg (.int .i64 n :: cs).toArray) = true := by
  have h : valEqL cs cs = true := h
  show valEqL (.int .i64 n :: cs) (.int .i64 n :: cs) = true
  simp [valEqL, valEq1, h]
theorem bareSelf (e : Int × Int) : valEq (.agg (bareC e).toArray) (.agg (bareC e).toArray) = true := (OIs.bare (fun _ => True) ASt.empty e.1 e.2).self
set_option maxRecDepth 100000 in
set_option maxHeartbeats 16000000 in
theorem law (s : ASt) (ns : List Int) (c : Int) (hw : WF s) (hk : s.next = 0) (hl : ns.length = 4) (hz : ∀ x ∈ ns, (Lit.int .i32 x).wf = true) (hc : (Lit.int .u8 c).wf = true) :
    Runs Try.prog libN 6 [.agg (ns.map (Value.int .i32)).toArray, .int .u8 c] s fun v _ => v = .bool true := by
  obtain ⟨QQ, hQQ⟩ : ∃ QQ : Value → ASt → Prop, QQ = fun v _ => v = .bool true := ⟨_, rfl⟩
  rw [← hQQ]
  refine Runs.enter 133 Try.func6 rfl rfl rfl rfl ?_
  intro f hn hf
  have h0 : f.get 0 = .agg (ns.map (Value.int .i32)).toArray := hf 0
  have h1 : f.get 1 = .int .u8 c := hf 1
  clear hf
  simp (config := { maxSteps := 1000000, implicitDefEqProofs := false }) (disch := omega) only [allW, allR, oneOf, evalAll, partsA, optA, Nat.reduceLT, Nat.reduceLeDiff, Nat.reduceEqDiff, Nat.reduceAdd, ↓reduceIte, hn, h0, h1]
  refine wstep_newPtrW hw ?_
  intro s1 ht1 hst1 hnx1 hw1
  have ht1 : Thing s1 s.next (ns.map (Value.int .i32)) := ht1
  have hd5 : (ns.map (Value.int .i32)).length + 1 = 5 := by rw [List.length_map, hl]
  simp (config := { maxSteps := 1000000, implicitDefEqProofs := false }) (disch := omega) only [allW, allR, oneOf, evalAll, partsA, optA, Nat.reduceLT, Nat.reduceLeDiff, Nat.reduceEqDiff, Nat.reduceAdd, ↓reduceIte, hn, h0, h1, hd5]
  refine (Runs.closed libFr awake1 (by omega) hw1).mono ?_
  rintro _ s2 ⟨rfl, k2, _⟩
  have ht2 := ht1.keeps k2
  have n2 := k2.next
  simp (config := { maxSteps := 1000000, implicitDefEqProofs := false }) (disch := omega) only [allW, allR, oneOf, evalAll, partsA, optA, Nat.reduceLT, Nat.reduceLeDiff, Nat.reduceEqDiff, Nat.reduceAdd, ↓reduceIte, hn, h0, h1, Bool.not_true, makeFour]
  refine wstep_newSlice rfl ?_
  intro a s3 ha haF k3
  have n3 := k3.next
  simp (config := { maxSteps := 1000000, implicitDefEqProofs := false }) (disch := omega) only [allW, allR, oneOf, evalAll, partsA, optA, Nat.reduceLT, Nat.reduceLeDiff, Nat.reduceEqDiff, Nat.reduceAdd, ↓reduceIte, hn, h0, h1, makeFour]
  refine wstep_newSlice rfl ?_
  intro b s4 hb hbF k4
  have n4 := k4.next
  simp (config := { maxSteps := 1000000, implicitDefEqProofs := false }) (disch := omega) only [allW, allR, oneOf, evalAll, partsA, optA, Nat.reduceLT, Nat.reduceLeDiff, Nat.reduceEqDiff, Nat.reduceAdd, ↓reduceIte, hn, h0, h1]
  obtain ⟨vs, hvs⟩ : ∃ vs, vs = ns.map fun n => (IntKind.i64.wrap n).tmod 1000000 := ⟨_, rfl⟩
  obtain ⟨ps, hps⟩ : ∃ ps, ps = vs.map fun v => IntKind.i64.wrap (v * 100000) := ⟨_, rfl⟩
  have hvl : vs.length = 4 := by rw [hvs, List.length_map, hl]
  have hpl : ps.length = 4 := by rw [hps, List.length_map, hvl]
  have hva : ∀ i, i < 4 → vs.getD i 0 = (IntKind.i64.wrap (ns.getD i 0)).tmod 1000000 := by
    intro i hi
    rw [hvs]; simp [List.getD, List.getElem?_map, List.getElem?_eq_getElem (show i < ns.length by omega)]
  have hpa : ∀ i, i < 4 → ps.getD i 0 = IntKind.i64.wrap (vs.getD i 0 * 100000) := by
    intro i hi
    rw [hps]; simp [List.getD, List.getElem?_map, List.getElem?_eq_getElem (show i < vs.length by omega)]
  have hab : ∀ i, idOf a = some i → idOf b ≠ some i := fun i e e2 => by
    have h1 := ha.idlt i e
    have h2 := hbF i e2
    omega
  refine Comes.loopOut (fun z f t => ∃ i : Nat, z = 4 - i ∧ i ≤ 4 ∧ Thing t s.next (ns.map (Value.int .i32)) ∧ Own t 5 a 4 (rC (mixR 2 vs i)) ∧ Own t 5 b 4 (rC (mixR 3 ps i)) ∧ s4.next ≤ t.next ∧ f.n = 133 ∧ f.get 1 = .int .u8 c ∧ f.get 2 = .pointer (some ⟨s.next, 0, some 5⟩) ∧ f.get 5 = a ∧ f.get 6 = b ∧ f.get 7 = .int .i64 (i : Nat))
    (fun z f t => z = .exit 0 ∧ Own t 5 a 4 (rC (mixR 2 vs 4)) ∧ Own t 5 b 4 (rC (mixR 3 ps 4)) ∧ s4.next ≤ t.next ∧ f.n = 133 ∧ f.get 1 = .int .u8 c ∧ f.get 5 = a ∧ f.get 6 = b)
    ⟨0, rfl, by omega, (ht2.keeps k3).keeps k4, ha.keeps k4, hb, Nat.le_refl _, by simp only [get_put, n_put, ↓reduceIte, Nat.reduceEqDiff, hn], by simp only [get_put, n_put, ↓reduceIte, Nat.reduceEqDiff, h1], by simp only [get_put, n_put, ↓reduceIte, Nat.reduceEqDiff], by simp only [get_put, n_put, ↓reduceIte, Nat.reduceEqDiff], by simp only [get_put, n_put, ↓reduceIte, Nat.reduceEqDiff], by simp only [get_put, n_put, ↓reduceIte, Nat.reduceEqDiff]; rfl⟩ ?_ ?_
  · clear hn h0 h1 f
    rintro Q hQ z f t ⟨i, rfl, hi, ht, ha, hb, nt, hn, h1, h2, h5, h6, h7⟩
    by_cases hlt : i < 4
    rotate_left
    · obtain rfl : i = 4 := by omega
      have d1 : ¬ ((4 : Nat) : Int) < 4 := by decide
      simp (config := { maxSteps := 1000000, implicitDefEqProofs := false }) (disch := omega) only [allW, allR, oneOf, evalAll, partsA, optA, Nat.reduceLT, Nat.reduceLeDiff, Nat.reduceEqDiff, Nat.reduceAdd, ↓reduceIte, hn, h1, h2, h5, h6, h7, eq_false d1]
      exact hQ _ _ _ ⟨rfl, ha, hb, nt, by simp only [get_put, n_put, ↓reduceIte, Nat.reduceEqDiff, hn], by simp only [get_put, n_put, ↓reduceIte, Nat.reduceEqDiff, h1], by simp only [get_put, n_put, ↓reduceIte, Nat.reduceEqDiff, h5], by simp only [get_put, n_put, ↓reduceIte, Nat.reduceEqDiff, h6]⟩
    have d1 : (i : Int) < 4 := by omega
    have hrem : ∀ x : Int, binA Try.prog .rem 2 (.int .i64 x) (.int .i64 1000000) = some (.int .i64 (x.tmod 1000000)) := fun x => by simp [binA, intOp]
    have hia := arrAt (P := Try.prog) Try.underlying64 szI32 s.next 0 5 hlt .i64
    rw [Nat.zero_add] at hia
    have hln : loadA Try.prog t 21 (.pointer (some ⟨s.next, i, some 5⟩)) = some (.int .i32 (ns.getD i 0)) := by
      rw [ht.load (P := Try.prog) agI32 (off := i) (c := 5) (by rw [List.length_map, hl]) (by rw [List.length_map]; omega)]
      simp [List.getD, List.getElem?_map, List.getElem?_eq_getElem (show i < ns.length by omega)]
    simp (config := { maxSteps := 1000000, implicitDefEqProofs := false }) (disch := omega) only [allW, allR, oneOf, evalAll, partsA, optA, Nat.reduceLT, Nat.reduceLeDiff, Nat.reduceEqDiff, Nat.reduceAdd, ↓reduceIte, hn, h1, h2, h5, h6, h7, eq_true d1, hia, hln, conv_int Try.underlying21 Try.underlying2, hrem]
    rw [← hva i hlt]
    refine (rint_eq t _).mono ?_
    rintro _ t2 ⟨rfl, k2⟩
    have m2 := k2.next
    have ha2 := ha.keeps k2
    have hb2 := hb.keeps k2
    have hix := ha2.sees.indexAddr (P := Try.prog) (k := .i64) (x := (i : Int)) Try.underlying28 szO (by omega) (by omega)
    have hiy := hb2.sees.indexAddr (P := Try.prog) (k := .i64) (x := (i : Int)) Try.underlying28 szO (by omega) (by omega)
    rw [Int.toNat_natCast] at hix hiy
    simp (config := { maxSteps := 1000000, implicitDefEqProofs := false }) (disch := omega) only [allW, allR, oneOf, evalAll, partsA, optA, Nat.reduceLT, Nat.reduceLeDiff, Nat.reduceEqDiff, Nat.reduceAdd, ↓reduceIte, hn, h1, h2, h5, h6, h7, hix]
    refine wstep_storeAgg szO (by decide) ha2 hlt rfl rfl ?_
    intro t3 ha3 u3
    rw [show (bareC (2, vs.getD i 0)).toArray.toList = bareC (2, vs.getD i 0) from rfl, mixR_set 2 vs hlt] at ha3
    have hb3 := hb2.turns u3 (fun j e => fun e2 => hab j e2 e)
    have m3 := u3.next
    simp (config := { maxSteps := 1000000, implicitDefEqProofs := false }) (disch := omega) only [allW, allR, oneOf, evalAll, partsA, optA, Nat.reduceLT, Nat.reduceLeDiff, Nat.reduceEqDiff, Nat.reduceAdd, ↓reduceIte, hn, h1, h2, h5, h6, h7, hiy, bO]
    refine wstep_storeAgg szO (by decide) hb3 hlt rfl rfl ?_
    intro t4 hb4 u4
    rw [← hpa i hlt] at hb4
    have hb4 : Own t4 5 b 4 (over (rC (mixR 3 ps i)) (i * 5) (bareC (3, ps.getD i 0))) := hb4
    rw [mixR_set 3 ps hlt] at hb4
    have ha4 := ha3.turns u4 (fun j e => fun e2 => hab j e e2)
    have m4 := u4.next
    have ht4 : Thing t4 s.next (ns.map (Value.int .i32)) := ((ht.keeps k2).turns u3 (fun e => by have := haF _ e; omega)).turns u4 (fun e => by have := hbF _ e; omega)
    simp (config := { maxSteps := 1000000, implicitDefEqProofs := false }) (disch := omega) only [allW, allR, oneOf, evalAll, partsA, optA, Nat.reduceLT, Nat.reduceLeDiff, Nat.reduceEqDiff, Nat.reduceAdd, ↓reduceIte, hn, h1, h2, h5, h6, h7, wrapI]
    exact wround_next (4 - (i + 1)) (by omega) ⟨i + 1, rfl, by omega, ht4, ha4, hb4, by omega, by simp only [get_put, n_put, ↓reduceIte, Nat.reduceEqDiff, hn], by simp only [get_put, n_put, ↓reduceIte, Nat.reduceEqDiff, h1], by simp only [get_put, n_put, ↓reduceIte, Nat.reduceEqDiff, h2], by simp only [get_put, n_put, ↓reduceIte, Nat.reduceEqDiff, h5], by simp only [get_put, n_put, ↓reduceIte, Nat.reduceEqDiff, h6], by simp only [get_put, n_put, ↓reduceIte, Nat.reduceEqDiff]; rfl⟩
  clear hn h0 h1 f
  rintro z f t ⟨rfl, ha, hb, nt, hn, h1, h5, h6⟩
  obtain ⟨v0, v1, v2, v3, rfl⟩ : ∃ v0 v1 v2 v3, vs = [v0, v1, v2, v3] := by
    match vs, hvl with
    | [a, b, c, d], _ => exact ⟨a, b, c, d, rfl⟩
  rw [mixR_four] at ha
  have hps : ps = [IntKind.i64.wrap (v0 * 100000), IntKind.i64.wrap (v1 * 100000), IntKind.i64.wrap (v2 * 100000), IntKind.i64.wrap (v3 * 100000)] := hps
  rw [hps, mixR_four] at hb
  have hxe := box_ints [] v0 v1 v2 v3
  obtain ⟨p0, hp0⟩ : ∃ p, p = IntKind.i64.wrap (v0 * 100000) := ⟨_, rfl⟩
  obtain ⟨p1, hp1⟩ : ∃ p, p = IntKind.i64.wrap (v1 * 100000) := ⟨_, rfl⟩
  obtain ⟨p2, hp2⟩ : ∃ p, p = IntKind.i64.wrap (v2 * 100000) := ⟨_, rfl⟩
  obtain ⟨p3, hp3⟩ : ∃ p, p = IntKind.i64.wrap (v3 * 100000) := ⟨_, rfl⟩
  rw [← hp0, ← hp1, ← hp2, ← hp3] at hb hxe
  clear hps hva hpa hvs
  simp (config := { maxSteps := 1000000, implicitDefEqProofs := false }) (disch := omega) only [allW, allR, oneOf, evalAll, partsA, optA, Nat.reduceLT, Nat.reduceLeDiff, Nat.reduceEqDiff, Nat.reduceAdd, ↓reduceIte, hn, h1, h5, h6]
  generalize hK : wthen Try.prog libN (Code.seq (Code.seq _ _) _) _ = K
  have go1 : ∀ (w0 w1 w2 w3 : Int) (f : AFr) (t : ASt), box4 [w0, w1, w2, w3] = box4 [p0, p1, p2, p3] → Own t 5 a 4 (rC [(2, v0), (2, v1), (2, v2), (2, v3)]) → Own t 5 b 4 (rC [(3, w0), (3, w1), (3, w2), (3, w3)]) → f.n = 133 → f.get 1 = .int .u8 c → f.get 5 = a → f.get 6 = b → K .normal f t := by
    clear hb ha hn h1 h5 h6 nt
    intro w0 w1 w2 w3 f t hw4 ha hb hn h1 h5 h6
    subst hK
    simp (config := { maxSteps := 1000000, implicitDefEqProofs := false }) (disch := omega) only [allW, allR, oneOf, evalAll, partsA, optA, Nat.reduceLT, Nat.reduceLeDiff, Nat.reduceEqDiff, Nat.reduceAdd, ↓reduceIte, hn, h1, h5, h6]
    generalize hK : wthen Try.prog libN (Code.seq (Code.region _ _ _) _) _ = K
    have go2 : ∀ (w0 w1 w2 w3 : Int) (f : AFr) (t : ASt), box4 [w0, w1, w2, w3] = box4 [p0, p1, p2, p3] → Own t 5 a 4 (rC [(2, v0), (2, v1), (2, v2), (2, v3)]) → Own t 5 b 4 (rC [(3, w0), (3, w1), (3, w2), (3, w3)]) → f.n = 133 → f.get 1 = .int .u8 c → f.get 5 = a → f.get 6 = b → K .normal f t := by
      clear hb ha hn h1 h5 h6 hw4
      intro w0 w1 w2 w3 f t hw4 ha hb hn h1 h5 h6
      subst hK
      simp (config := { maxSteps := 1000000, implicitDefEqProofs := false }) (disch := omega) only [allW, allR, oneOf, evalAll, partsA, optA, Nat.reduceLT, Nat.reduceLeDiff, Nat.reduceEqDiff, Nat.reduceAdd, ↓reduceIte, hn, h1, h5, h6, bD0]
      refine (rarr_any (lib := libN) rfl rfl rfl (fun _ => True) t a (rO [(2, v0), (2, v1), (2, v2), (2, v3)]) _ ha.sees (rO_rows _ _ _) (by simp [rO]) (rO_small _)).mono ?_
      rintro _ t1 ⟨c1, rfl, o1, k1⟩
      have m1 := k1.next
      simp (config := { maxSteps := 1000000, implicitDefEqProofs := false }) (disch := omega) only [allW, allR, oneOf, evalAll, partsA, optA, Nat.reduceLT, Nat.reduceLeDiff, Nat.reduceEqDiff, Nat.reduceAdd, ↓reduceIte, hn, h1, h5, h6]
      refine (pbox_any (fun j => t.next ≤ j) t1 D0 _ noneC _ [] (noneIs _ _) noneSmall c1 _ o1 (.mk (by simp) (by simp [rO]) (by simp) (fun e h => by cases h) (rO_small _) (fun e h => by cases h))).mono ?_
      rintro _ t2 ⟨rfl, k2⟩
      have m2 := k2.next
      have hxe : boxD D0.items (.mk 6 0 [] (rO [(2, v0), (2, v1), (2, v2), (2, v3)]) []) = some (box4 [p0, p1, p2, p3]) := hxe
      rw [hxe]
      have bv : ∀ l, boxV (some l) = .agg (i64V l).toArray := fun _ => rfl
      have hd5 : [Value.int .i64 0, .int .i64 0, .int .i64 0, .int .i64 0].length + 1 = 5 := rfl
      obtain ⟨B, hB⟩ : ∃ B, B = i64V (box4 [p0, p1, p2, p3]) := ⟨_, rfl⟩
      rw [bv, ← hB]
      have hBl : B.length = 4 := by rw [hB]; rfl
      have hBo : B.all okCell = true := by rw [hB]; rfl
      simp (config := { maxSteps := 1000000, implicitDefEqProofs := false }) (disch := omega) only [allW, allR, oneOf, evalAll, partsA, optA, Nat.reduceLT, Nat.reduceLeDiff, Nat.reduceEqDiff, Nat.reduceAdd, ↓reduceIte, hn, h1, h5, h6, ext0, ext1, Option.isSome_some, zBx, plBx, clBx]
      refine wstep_newPtr ?_
      intro t3 q3 k3 x3
      simp (config := { maxSteps := 1000000, implicitDefEqProofs := false }) (disch := omega) only [allW, allR, oneOf, evalAll, partsA, optA, Nat.reduceLT, Nat.reduceLeDiff, Nat.reduceEqDiff, Nat.reduceAdd, ↓reduceIte, hn, h1, h5, h6, hd5]
      refine wstep_storeAll szBx (by decide) q3 rfl rfl hBl hBo ?_
      intro t4 q4 nt4 et4
      have q4 : Thing t4 t2.next B := q4
      have m3 := k3.next
      have k04 : Stay t.next t t4 := ((k1.trans (k2.weaken m1)).trans (k3.weaken (by omega))).trans ⟨by omega, fun j hj => et4 j (by omega)⟩
      have hb4 := hb.keeps k04
      have m4 := k04.next
      simp (config := { maxSteps := 1000000, implicitDefEqProofs := false }) (disch := omega) only [allW, allR, oneOf, evalAll, partsA, optA, Nat.reduceLT, Nat.reduceLeDiff, Nat.reduceEqDiff, Nat.reduceAdd, ↓reduceIte, hn, h1, h5, h6]
      obtain ⟨A, hA⟩ : ∃ A : Nat → Bool, A = fun j => decide (j < t4.next) := ⟨_, rfl⟩
      have hAl : ∀ j, A j = true → j < t4.next := by
        intro j h
        rw [hA] at h
        exact of_decide_eq_true h
      have hAo : ∀ j, j < t4.next → A j = true := fun j h => by rw [hA]; exact decide_eq_true h
      have lE := fun k => LA.lowV_elemOld hb4.sees hAo (k := k)
      have hsp := Stay.spare t4 3
      have hnT : (spare t4 3).next = t4.next + 3 := spare_next _ _
      have hbS := hb4.keeps hsp
      have ix0 := hbS.sees.indexAddr (P := Try.prog) (k := .i64) (x := 0) Try.underlying28 szO (by decide) (show (0 : Int) < (4 : Nat) by decide)
      rw [show (0 : Int).toNat = 0 from rfl] at ix0
      have ld0 : ∀ t', Stay t4.next t4 t' → loadA Try.prog t' 31 (elemPtr 5 b 0) = some (.agg (bareC (3, w0)).toArray) := fun t' h => (hb4.keeps h).sees.loadAgg (P := Try.prog) agO szO (k := 0) (show 0 < 4 by decide)
      have ix1 := hbS.sees.indexAddr (P := Try.prog) (k := .i64) (x := 1) Try.underlying28 szO (by decide) (show (1 : Int) < (4 : Nat) by decide)
      rw [show (1 : Int).toNat = 1 from rfl] at ix1
      have ld1 : ∀ t', Stay t4.next t4 t' → loadA Try.prog t' 31 (elemPtr 5 b 1) = some (.agg (bareC (3, w1)).toArray) := fun t' h => (hb4.keeps h).sees.loadAgg (P := Try.prog) agO szO (k := 1) (show 1 < 4 by decide)
      have ix2 := hbS.sees.indexAddr (P := Try.prog) (k := .i64) (x := 2) Try.underlying28 szO (by decide) (show (2 : Int) < (4 : Nat) by decide)
      rw [show (2 : Int).toNat = 2 from rfl] at ix2
      have ld2 : ∀ t', Stay t4.next t4 t' → loadA Try.prog t' 31 (elemPtr 5 b 2) = some (.agg (bareC (3, w2)).toArray) := fun t' h => (hb4.keeps h).sees.loadAgg (P := Try.prog) agO szO (k := 2) (show 2 < 4 by decide)
      have ix3 := hbS.sees.indexAddr (P := Try.prog) (k := .i64) (x := 3) Try.underlying28 szO (by decide) (show (3 : Int) < (4 : Nat) by decide)
      rw [show (3 : Int).toNat = 3 from rfl] at ix3
      have ld3 : ∀ t', Stay t4.next t4 t' → loadA Try.prog t' 31 (elemPtr 5 b 3) = some (.agg (bareC (3, w3)).toArray) := fun t' h => (hb4.keeps h).sees.loadAgg (P := Try.prog) agO szO (k := 3) (show 3 < 4 by decide)
      refine LB.Drawn.looseK A hAl 2 3 (by kernel_rfl) (by kernel_rfl) ?_
      have fRest : ∀ n (e : Int × Int), valEq (.agg (.int .i64 n :: bareC e).toArray) (.agg (.int .i64 n :: bareC e).toArray) = true := fun n e => itSelf n (bareSelf e)
      simp (config := { maxSteps := 1000000, implicitDefEqProofs := false }) (disch := omega) only [allW, allR, allL, allB, Nat.sub_self, Nat.add_one_sub_one, Nat.reduceSub, oneOf, evalAll, partsA, optA, Nat.reduceLT, Nat.reduceLeDiff, Nat.reduceEqDiff, Nat.reduceAdd, ↓reduceIte, hn, h1, h5, h6, hbS.self, ix0, ix1, ix2, ix3, ld0 _ hsp, ld1 _ hsp, ld2 _ hsp, ld3 _ hsp, lE _ (show 0 < 4 by decide), lE _ (show 1 < 4 by decide), lE _ (show 2 < 4 by decide), lE _ (show 3 < 4 by decide), valEq_elemPtr, bareSelf, bItem 1 (cs := bareC (3, w0)) rfl, itSelf 1 (bareSelf (3, w0)), buildR4]
      refine (rref_eq _ _).mono ?_
      rintro _ u1 ⟨rfl, j1⟩
      have g1 : Stay t4.next t4 u1 := hsp.trans (j1.weaken (by omega))
      have y1 := j1.next
      refine ⟨fun _ => LA.Stay.toA hAl (j1.weaken (by omega)), ?_⟩
      try simp (config := { maxSteps := 1000000, implicitDefEqProofs := false }) (disch := omega) only [allW, allR, allL, allB, Nat.sub_self, Nat.add_one_sub_one, Nat.reduceSub, oneOf, evalAll, partsA, optA, Nat.reduceLT, Nat.reduceLeDiff, Nat.reduceEqDiff, Nat.reduceAdd, ↓reduceIte, hn, h1, h5, h6, hbS.self, ix0, ix1, ix2, ix3, ld0 _ g1, ld1 _ g1, ld2 _ g1, ld3 _ g1, lE _ (show 0 < 4 by decide), lE _ (show 1 < 4 by decide), lE _ (show 2 < 4 by decide), lE _ (show 3 < 4 by decide), valEq_elemPtr, bareSelf, bItem 1 (cs := bareC (3, w0)) rfl, itSelf 1 (bareSelf (3, w0)), buildR4]
      refine LB.smake_newSlice (base := t4.next) rfl (by omega) (Nat.le_refl _) ?_
      intro y2 u2 hy2 id2 kk2 nx2 ot2
      have g2 : Stay t4.next t4 u2 := g1.trans kk2
      simp (config := { maxSteps := 1000000, implicitDefEqProofs := false }) (disch := omega) only [allW, allR, allL, allB, Nat.sub_self, Nat.add_one_sub_one, Nat.reduceSub, oneOf, evalAll, partsA, optA, Nat.reduceLT, Nat.reduceLeDiff, Nat.reduceEqDiff, Nat.reduceAdd, ↓reduceIte, hn, h1, h5, h6, hbS.self, ix0, ix1, ix2, ix3, lE _ (show 0 < 4 by decide), lE _ (show 1 < 4 by decide), lE _ (show 2 < 4 by decide), lE _ (show 3 < 4 by decide), valEq_elemPtr, bareSelf, bItem 1 (cs := bareC (3, w0)) rfl, itSelf 1 (bareSelf (3, w0)), hy2.self]
      refine (rarr_any (lib := libN) rfl rfl rfl (fun _ => True) u2 y2 (rO [(9, 1), (3, w1), (3, w2), (3, w3)]) _ hy2.sees (rO_rows _ _ _) (by simp [rO]) (rO_small _)).mono ?_
      rintro _ u3 ⟨c3, rfl, o3, j3⟩
      have l3 := o3.len
      have e3 := j3.next
      have g3 : Stay t4.next t4 u3 := g2.trans (j3.weaken (by omega))
      refine ⟨fun _ => LA.Stay.toA hAl (j3.weaken (by omega)), ?_⟩
      simp (config := { maxSteps := 1000000, implicitDefEqProofs := false }) (disch := omega) only [allW, allR, allL, allB, Nat.sub_self, Nat.add_one_sub_one, Nat.reduceSub, oneOf, evalAll, partsA, optA, Nat.reduceLT, Nat.reduceLeDiff, Nat.reduceEqDiff, Nat.reduceAdd, ↓reduceIte, hn, h1, h5, h6, hbS.self, ix0, ix1, ix2, ix3, lE _ (show 0 < 4 by decide), lE _ (show 1 < 4 by decide), lE _ (show 2 < 4 by decide), lE _ (show 3 < 4 by decide), valEq_elemPtr, bareSelf, bItem 1 (cs := bareC (3, w0)) rfl, itSelf 1 (bareSelf (3, w0)), o3.self, bItem 2 l3, itSelf 2 o3.self, buildAgg2 (a := (.int .i64 1 :: bareC (3, w0)).toArray) (b := (.int .i64 2 :: c3).toArray) Try.underlying32 szI zI plI rfl rfl (by simp [l3]) (by decide)]
      refine LB.smake_newSlice (base := t4.next) (by simp [l3]; rfl) (by omega) (by omega) ?_
      intro y4 u4 hy4 id4 kk4 nx4 ot4
      have g4 : Stay t4.next t4 u4 := g3.trans kk4
      obtain ⟨ia, il, ib, rfl⟩ : ∃ a n c, y4 = .slice a n c := by cases hy4 <;> exact ⟨_, _, _, rfl⟩
      have hd10 : noneD.length + 1 = 10 := rfl
      have hds := docSelf ia il ib hy4.sees.self1
      simp (config := { maxSteps := 1000000, implicitDefEqProofs := false }) (disch := omega) only [allW, allR, allL, allB, Nat.sub_self, Nat.add_one_sub_one, Nat.reduceSub, oneOf, evalAll, partsA, optA, Nat.reduceLT, Nat.reduceLeDiff, Nat.reduceEqDiff, Nat.reduceAdd, ↓reduceIte, hn, h1, h5, h6, bDocI, hds, zD, plD]
      refine LB.smake_newPtr (by omega) ?_
      intro u5 q5 nx5 ot5
      simp (config := { maxSteps := 1000000, implicitDefEqProofs := false }) (disch := omega) only [allW, allR, allL, allB, Nat.sub_self, Nat.add_one_sub_one, Nat.reduceSub, oneOf, evalAll, partsA, optA, Nat.reduceLT, Nat.reduceLeDiff, Nat.reduceEqDiff, Nat.reduceAdd, ↓reduceIte, hn, h1, h5, h6, hd10]
      refine LB.sstep_storeAll szD (by decide) q5 rfl rfl rfl rfl (fun h => absurd rfl h) ?_
      intro u6 q6 nx6 ot6
      have q6 : Thing u6 (t4.next + 1 + 1) (docC (D1 w0 w1 w2 w3) (.slice none 0 0) noneC (.slice ia il ib)) := q6
      have g6 : Stay t4.next t4 u6 := (g4.trans ⟨by omega, fun j hj => ot5 j (by omega)⟩).trans ⟨by omega, fun j hj => ot6 j (by omega)⟩
      have o6 := ((o3.ofPut nx4 ot4 (by omega)).ofPut nx5 ot5 (by omega)).ofPut nx6 ot6 (by omega)
      have hD6 : DocIs (fun _ => True) u6 (.slice none 0 0) noneC (.slice ia il ib) ((.int .i64 1 :: bareC (3, w0)) ++ (.int .i64 2 :: c3)) (D1 w0 w1 w2 w3) := by
        refine ⟨.nil, Foot.nil _, OIs.none _ _, ((hy4.ofPut nx5 ot5 (by rw [id4]; intro e; injection e with e; omega)).ofPut nx6 ot6 (by rw [id4]; intro e; injection e with e; omega)).sees, Foot.of_id (fun j hj => trivial), ?_⟩
        have r1 : ItIs (fun _ => True) u6 (.int .i64 1 :: bareC (3, w0)) (1, .mk 3 w0 [] [] []) := ⟨_, rfl, OIs.bare _ _ 3 w0⟩
        have r2 : ItIs (fun _ => True) u6 (.int .i64 2 :: c3) (2, .mk 6 0 [] [.mk 9 1 [] [] [], .mk 3 w1 [] [] [], .mk 3 w2 [] [] [], .mk 3 w3 [] [] []] []) := ⟨c3, rfl, o6.mono (fun _ _ => trivial)⟩
        have w1' := ORows.snoc (z := 6) (ORows.nil (z := 6)) (cs := .int .i64 1 :: bareC (3, w0)) rfl r1
        have w2' := ORows.snoc (z := 6) w1' (cs := .int .i64 2 :: c3) (by rw [List.length_cons, l3]) r2
        exact w2'
      have hs1 := smallTwo w0 w1 w2 w3
      have e6 := g6.next
      have hb6 := hb4.keeps g6
      have q46 := q4.keeps g6
      simp (config := { maxSteps := 1000000, implicitDefEqProofs := false }) (disch := omega) only [allW, allR, oneOf, evalAll, partsA, optA, Nat.reduceLT, Nat.reduceLeDiff, Nat.reduceEqDiff, Nat.reduceAdd, ↓reduceIte, allW, allR, allL, allB, Nat.sub_self, Nat.add_one_sub_one, Nat.reduceSub, oneOf, evalAll, partsA, optA, Nat.reduceLT, Nat.reduceLeDiff, Nat.reduceEqDiff, Nat.reduceAdd, ↓reduceIte, hn, h1, h5, h6]
      have hBs : valEq (.agg B.toArray) (.agg B.toArray) = true := by rw [hB]; exact boxSelf _ _ _ _
      have hNs : valEq (.agg (i64V [0, 0, 0, 0]).toArray) (.agg (i64V [0, 0, 0, 0]).toArray) = true := boxSelf 0 0 0 0
      have hlD : (docC (D1 w0 w1 w2 w3) (.slice none 0 0) noneC (.slice ia il ib)).length + 1 = 10 := rfl
      have ldD : ∀ t', Stay u6.next u6 t' → loadA Try.prog t' 34 (.pointer (some ⟨t4.next + 1 + 1, 0, some 10⟩)) = some (.agg (docC (D1 w0 w1 w2 w3) (.slice none 0 0) noneC (.slice ia il ib)).toArray) := fun t' h => db_all (q6.keeps h) rfl
      obtain ⟨A2, hA2⟩ : ∃ A : Nat → Bool, A = fun j => decide (j < u6.next) := ⟨_, rfl⟩
      have hA2l : ∀ j, A2 j = true → j < u6.next := by
        intro j h
        rw [hA2] at h
        exact of_decide_eq_true h
      have hA2o : ∀ j, j < u6.next → A2 j = true := fun j h => by rw [hA2]; exact decide_eq_true h
      have hsp2 := Stay.spare u6 1
      have hnT2 : (spare u6 1).next = u6.next + 1 := spare_next _ _
      have hlowD : ∀ k, LA.lowV A2 (some (.pointer (some ⟨t4.next + 1 + 1, k, some 10⟩))) = true := fun k => LA.lowV_ptr (A := A2) (i := t4.next + 1 + 1) (hA2o _ q6.lt)
      refine LB.Drawn.looseK A2 hA2l 2 1 (by kernel_rfl) (by kernel_rfl) ?_
      simp (config := { maxSteps := 1000000, implicitDefEqProofs := false }) (disch := omega) only [allW, allR, allL, allB, Nat.sub_self, Nat.add_one_sub_one, Nat.reduceSub, oneOf, evalAll, partsA, optA, Nat.reduceLT, Nat.reduceLeDiff, Nat.reduceEqDiff, Nat.reduceAdd, ↓reduceIte, hn, h1, h5, h6, hlowD, ldD _ hsp2, hD6.self]
      refine (rref_eq _ _).mono ?_
      rintro _ u7 ⟨rfl, j7⟩
      have e7 := j7.next
      have g7 : Stay u6.next u6 u7 := hsp2.trans (j7.weaken (by omega))
      refine ⟨fun _ => LA.Stay.toA hA2l (j7.weaken (by omega)), ?_⟩
      try simp (config := { maxSteps := 1000000, implicitDefEqProofs := false }) (disch := omega) only [allW, allR, allL, allB, Nat.sub_self, Nat.add_one_sub_one, Nat.reduceSub, oneOf, evalAll, partsA, optA, Nat.reduceLT, Nat.reduceLeDiff, Nat.reduceEqDiff, Nat.reduceAdd, ↓reduceIte, hn, h1, h5, h6, hlowD, ldD _ g7, hD6.self, bareSelf]
      refine (pbox_any (fun _ => True) u7 _ _ noneC _ _ (hD6.keeps g7) hs1 _ (.mk 9 2 [] [] []) (OIs.bare _ _ 9 2) (Small.bare 9 2)).mono ?_
      rintro _ u8 ⟨rfl, j8⟩
      have e8 := j8.next
      have g8 : Stay u6.next u6 u8 := g7.trans (j8.weaken (by omega))
      have hb2 : boxD (D1 w0 w1 w2 w3).items (.mk 9 2 [] [] []) = some (box4 [p0, p1, p2, p3]) := by rw [← hw4]; exact box_two w0 w1 w2 w3
      rw [hb2, bv, ← hB, Option.isSome_some]
      refine ⟨fun _ => LA.Stay.toA hA2l (j8.weaken (by omega)), ?_⟩
      simp (config := { maxSteps := 1000000, implicitDefEqProofs := false }) (disch := omega) only [allW, allR, allL, allB, Nat.sub_self, Nat.add_one_sub_one, Nat.reduceSub, oneOf, evalAll, partsA, optA, Nat.reduceLT, Nat.reduceLeDiff, Nat.reduceEqDiff, Nat.reduceAdd, ↓reduceIte, hn, h1, h5, h6, valEq_found hBs, ext0, ext1, hBs, valEq_bool, zBx, plBx, clBx]
      refine LB.smake_newPtr (by omega) ?_
      intro u9 q9 nx9 ot9
      simp (config := { maxSteps := 1000000, implicitDefEqProofs := false }) (disch := omega) only [allW, allR, allL, allB, Nat.sub_self, Nat.add_one_sub_one, Nat.reduceSub, oneOf, evalAll, partsA, optA, Nat.reduceLT, Nat.reduceLeDiff, Nat.reduceEqDiff, Nat.reduceAdd, ↓reduceIte, hn, h1, h5, h6, hd5]
      refine LB.sstep_storeAll szBx (by decide) q9 rfl rfl hBl hBo (fun h => absurd rfl h) ?_
      intro uA qA nxA otA
      have qA : Thing uA u6.next B := qA
      have gA : Stay u6.next u6 uA := (g8.trans ⟨by omega, fun j hj => ot9 j (by omega)⟩).trans ⟨by omega, fun j hj => otA j (by omega)⟩
      have eA := gA.next
      simp (config := { maxSteps := 1000000, implicitDefEqProofs := false }) (disch := omega) only [allW, allR, oneOf, evalAll, partsA, optA, Nat.reduceLT, Nat.reduceLeDiff, Nat.reduceEqDiff, Nat.reduceAdd, ↓reduceIte, allW, allR, allL, allB, Nat.sub_self, Nat.add_one_sub_one, Nat.reduceSub, oneOf, evalAll, partsA, optA, Nat.reduceLT, Nat.reduceLeDiff, Nat.reduceEqDiff, Nat.reduceAdd, ↓reduceIte, hn, h1, h5, h6]
      have qDA := q6.keeps gA
      have hDA := hD6.keeps gA
      have hbA := hb6.keeps gA
      have q4A := q46.keeps gA
      have ldE : ∀ t', Stay uA.next uA t' → loadA Try.prog t' 34 (.pointer (some ⟨t4.next + 1 + 1, 0, some 10⟩)) = some (.agg (docC (D1 w0 w1 w2 w3) (.slice none 0 0) noneC (.slice ia il ib)).toArray) := fun t' h => db_all (qDA.keeps h) rfl
      obtain ⟨A3, hA3⟩ : ∃ A : Nat → Bool, A = fun j => decide (j < uA.next) := ⟨_, rfl⟩
      have hA3l : ∀ j, A3 j = true → j < uA.next := by
        intro j h
        rw [hA3] at h
        exact of_decide_eq_true h
      have hA3o : ∀ j, j < uA.next → A3 j = true := fun j h => by rw [hA3]; exact decide_eq_true h
      have hsp3 := Stay.spare uA 1
      have hnT3 : (spare uA 1).next = uA.next + 1 := spare_next _ _
      have hlowE : ∀ k, LA.lowV A3 (some (.pointer (some ⟨t4.next + 1 + 1, k, some 10⟩))) = true := fun k => LA.lowV_ptr (A := A3) (i := t4.next + 1 + 1) (hA3o _ qDA.lt)
      have hbS3 := hbA.keeps hsp3
      have hsl := hbS3.sees.sliceHigh (P := Try.prog) Try.underlying28 szO (k := .i64) (y := 3) (by decide) (by decide)
      rw [show (3 : Int).toNat = 3 from rfl] at hsl
      have hcut := hbS3.sees.cut (lo := 0) (hi := 3) (by decide) (by decide)
      have hcut : Sees (spare uA 1) 5 (cutS 5 b 0 3) (rO [(3, w0), (3, w1), (3, w2)]).length (rC [(3, w0), (3, w1), (3, w2)]) := hcut
      refine LB.Drawn.looseK A3 hA3l 2 1 (by kernel_rfl) (by kernel_rfl) ?_
      simp (config := { maxSteps := 1000000, implicitDefEqProofs := false }) (disch := omega) only [allW, allR, allL, allB, Nat.sub_self, Nat.add_one_sub_one, Nat.reduceSub, oneOf, evalAll, partsA, optA, Nat.reduceLT, Nat.reduceLeDiff, Nat.reduceEqDiff, Nat.reduceAdd, ↓reduceIte, hn, h1, h5, h6, hlowE, LA.lowV_sees hbA.sees (fun i e => hA3o _ (hbA.idlt i e)), ldE _ hsp3, hDA.self, hbA.self, hsl, hcut.self]
      refine (rarr_any (lib := libN) rfl rfl rfl (fun _ => True) _ _ (rO [(3, w0), (3, w1), (3, w2)]) _ hcut (rO_rows _ _ _) (by simp [rO]) (rO_small _)).mono ?_
      rintro _ uB ⟨cB, rfl, oB, jB⟩
      have eB := jB.next
      have gB : Stay uA.next uA uB := hsp3.trans (jB.weaken (by omega))
      refine ⟨fun _ => LA.Stay.toA hA3l (jB.weaken (by omega)), ?_⟩
      try simp (config := { maxSteps := 1000000, implicitDefEqProofs := false }) (disch := omega) only [allW, allR, allL, allB, Nat.sub_self, Nat.add_one_sub_one, Nat.reduceSub, oneOf, evalAll, partsA, optA, Nat.reduceLT, Nat.reduceLeDiff, Nat.reduceEqDiff, Nat.reduceAdd, ↓reduceIte, hn, h1, h5, h6, hlowE, ldE _ gB, hDA.self, oB.self]
      refine (pbox_any (fun _ => True) uB _ _ noneC _ _ (hDA.keeps gB) hs1 _ _ (oB.mono (fun _ _ => trivial)) (.mk (by simp) (by simp [rO]) (by simp) (fun e h => by cases h) (rO_small _) (fun e h => by cases h))).mono ?_
      rintro _ uC ⟨rfl, jC⟩
      have eC := jC.next
      have gC : Stay uA.next uA uC := gB.trans (jC.weaken (by omega))
      have bn : boxV none = .agg (i64V [0, 0, 0, 0]).toArray := rfl
      rw [box_three, bn, Option.isSome_none]
      refine ⟨fun _ => LA.Stay.toA hA3l (jC.weaken (by omega)), ?_⟩
      simp (config := { maxSteps := 1000000, implicitDefEqProofs := false }) (disch := omega) only [allW, allR, allL, allB, Nat.sub_self, Nat.add_one_sub_one, Nat.reduceSub, oneOf, evalAll, partsA, optA, Nat.reduceLT, Nat.reduceLeDiff, Nat.reduceEqDiff, Nat.reduceAdd, ↓reduceIte, hn, h1, h5, h6, valEq_found hNs, ext0, ext1, hNs, valEq_bool, zBx, plBx, clBx]
      refine LB.smake_newPtr (by omega) ?_
      intro uD qD nxD otD
      simp (config := { maxSteps := 1000000, implicitDefEqProofs := false }) (disch := omega) only [allW, allR, allL, allB, Nat.sub_self, Nat.add_one_sub_one, Nat.reduceSub, oneOf, evalAll, partsA, optA, Nat.reduceLT, Nat.reduceLeDiff, Nat.reduceEqDiff, Nat.reduceAdd, ↓reduceIte, hn, h1, h5, h6, hd5]
      refine LB.sstep_storeAll szBx (by decide) qD rfl rfl rfl rfl (fun h => absurd rfl h) ?_
      intro uE qE nxE otE
      have gE : Stay uA.next uA uE := (gC.trans ⟨by omega, fun j hj => otD j (by omega)⟩).trans ⟨by omega, fun j hj => otE j (by omega)⟩
      have q4E := q4A.keeps gE
      have qAE := qA.keeps gE
      have lP : loadA Try.prog uE 37 (.pointer (some ⟨t2.next, 0, some 5⟩)) = some (.agg B.toArray) := Thing.loadAll (cs := B) agBx (by rw [hBl]; exact szBx) q4E (c := 5) (by rw [hBl])
      have lQ : loadA Try.prog uE 37 (.pointer (some ⟨u6.next, 0, some 5⟩)) = some (.agg B.toArray) := Thing.loadAll (cs := B) agBx (by rw [hBl]; exact szBx) qAE (c := 5) (by rw [hBl])
      have hEq : binA Try.prog .eql 37 (.agg B.toArray) (.agg B.toArray) = some (.bool true) := by rw [hB]; exact boxEq _ _ _ _
      have ia : ∀ k : Nat, k < 4 → indexAddrA Try.prog 37 (.pointer (some ⟨t2.next, 0, some 5⟩)) (.int .i64 (k : Nat)) = some (.pointer (some ⟨t2.next, 0 + k, some 5⟩)) := fun k hk => arrAt Try.underlying37 szI64 _ _ _ hk .i64
      have ia0 : indexAddrA Try.prog 37 (.pointer (some ⟨t2.next, 0, some 5⟩)) (.int .i64 0) = some (.pointer (some ⟨t2.next, 0, some 5⟩)) := ia 0 (by decide)
      have la0 : loadA Try.prog uE 2 (.pointer (some ⟨t2.next, 0, some 5⟩)) = some (.int .i64 ((box4 [p0, p1, p2, p3]).getD 0 0)) := by
        rw [q4E.load (P := Try.prog) agI64 (off := 0) (c := 5) (by rw [hBl]) (by rw [hBl]; decide), hB]
        rfl
      have ia1 : indexAddrA Try.prog 37 (.pointer (some ⟨t2.next, 0, some 5⟩)) (.int .i64 1) = some (.pointer (some ⟨t2.next, 1, some 5⟩)) := ia 1 (by decide)
      have la1 : loadA Try.prog uE 2 (.pointer (some ⟨t2.next, 1, some 5⟩)) = some (.int .i64 ((box4 [p0, p1, p2, p3]).getD 1 0)) := by
        rw [q4E.load (P := Try.prog) agI64 (off := 1) (c := 5) (by rw [hBl]) (by rw [hBl]; decide), hB]
        rfl
      have ia2 : indexAddrA Try.prog 37 (.pointer (some ⟨t2.next, 0, some 5⟩)) (.int .i64 2) = some (.pointer (some ⟨t2.next, 2, some 5⟩)) := ia 2 (by decide)
      have la2 : loadA Try.prog uE 2 (.pointer (some ⟨t2.next, 2, some 5⟩)) = some (.int .i64 ((box4 [p0, p1, p2, p3]).getD 2 0)) := by
        rw [q4E.load (P := Try.prog) agI64 (off := 2) (c := 5) (by rw [hBl]) (by rw [hBl]; decide), hB]
        rfl
      have ia3 : indexAddrA Try.prog 37 (.pointer (some ⟨t2.next, 0, some 5⟩)) (.int .i64 3) = some (.pointer (some ⟨t2.next, 3, some 5⟩)) := ia 3 (by decide)
      have la3 : loadA Try.prog uE 2 (.pointer (some ⟨t2.next, 3, some 5⟩)) = some (.int .i64 ((box4 [p0, p1, p2, p3]).getD 3 0)) := by
        rw [q4E.load (P := Try.prog) agI64 (off := 3) (c := 5) (by rw [hBl]) (by rw [hBl]; decide), hB]
        rfl
      have le02 : (box4 [p0, p1, p2, p3]).getD 0 0 ≤ (box4 [p0, p1, p2, p3]).getD 2 0 := minI_le p0 p2
      have le13 : (box4 [p0, p1, p2, p3]).getD 1 0 ≤ (box4 [p0, p1, p2, p3]).getD 3 0 := minI_le p1 p3
      simp (config := { maxSteps := 1000000, implicitDefEqProofs := false }) (disch := omega) only [allW, allR, oneOf, evalAll, partsA, optA, Nat.reduceLT, Nat.reduceLeDiff, Nat.reduceEqDiff, Nat.reduceAdd, ↓reduceIte, allW, allR, allL, allB, Nat.sub_self, Nat.add_one_sub_one, Nat.reduceSub, oneOf, evalAll, partsA, optA, Nat.reduceLT, Nat.reduceLeDiff, Nat.reduceEqDiff, Nat.reduceAdd, ↓reduceIte, undef, hn, h1, h5, h6, lP, lQ, hEq, ia0, ia1, ia2, ia3, la0, la1, la2, la3, bin_leq, eq_true le02, eq_true le13, decide_true, Bool.not_false]
      simp (config := { maxSteps := 1000000, implicitDefEqProofs := false }) (disch := omega) only [allW, allR, wfn_ret, wfn_normal, oneOf, evalAll, partsA, optA, Nat.reduceLT, Nat.reduceLeDiff, Nat.reduceEqDiff, Nat.reduceAdd, ↓reduceIte, hn, Try.results6]
      rw [hQQ]
    simp (config := { maxSteps := 1000000, implicitDefEqProofs := false }) (disch := omega) only [allW, allR, oneOf, evalAll, partsA, optA, Nat.reduceLT, Nat.reduceLeDiff, Nat.reduceEqDiff, Nat.reduceAdd, ↓reduceIte, hn, h1, h5, h6, bin_and]
    refine wif_cases (fun _ => ?_) (fun _ => ?_)
    rotate_left
    · simp (config := { maxSteps := 1000000, implicitDefEqProofs := false }) (disch := omega) only [allW, allR, oneOf, evalAll, partsA, optA, Nat.reduceLT, Nat.reduceLeDiff, Nat.reduceEqDiff, Nat.reduceAdd, ↓reduceIte, hn, h1, h5, h6]
      exact go2 _ _ _ _ _ _ hw4 ha hb (by simp only [get_put, n_put, ↓reduceIte, Nat.reduceEqDiff, hn]) (by simp only [get_put, n_put, ↓reduceIte, Nat.reduceEqDiff, h1]) (by simp only [get_put, n_put, ↓reduceIte, Nat.reduceEqDiff, h5]) (by simp only [get_put, n_put, ↓reduceIte, Nat.reduceEqDiff, h6])
    have hw4' : box4 [w0, w3, w2, w1] = box4 [p0, p1, p2, p3] := by
      rw [← hw4]
      show [minI w0 w2, minI w3 w1, maxI w0 w2, maxI w3 w1] = [minI w0 w2, minI w1 w3, maxI w0 w2, maxI w1 w3]
      rw [minI_comm w3 w1, maxI_comm w3 w1]
    simp (config := { maxSteps := 1000000, implicitDefEqProofs := false }) (disch := omega) only [allW, allR, oneOf, evalAll, partsA, optA, Nat.reduceLT, Nat.reduceLeDiff, Nat.reduceEqDiff, Nat.reduceAdd, ↓reduceIte, hn, h1, h5, h6]
    · obtain ⟨A, hA⟩ : ∃ A : Nat → Bool, A = fun j => decide (j < t.next) := ⟨_, rfl⟩
      have hAl : ∀ j, A j = true → j < t.next := by
        intro j h
        rw [hA] at h
        exact of_decide_eq_true h
      have hAo : ∀ j, j < t.next → A j = true := fun j h => by rw [hA]; exact decide_eq_true h
      have lE := fun k => LA.lowV_elemOld hb.sees hAo (k := k)
      have ixI := hb.sees.indexAddr (P := Try.prog) (k := .i64) (x := 1) Try.underlying28 szO (by decide) (show (1 : Int) < (4 : Nat) by decide)
      have ixJ := hb.sees.indexAddr (P := Try.prog) (k := .i64) (x := 3) Try.underlying28 szO (by decide) (show (3 : Int) < (4 : Nat) by decide)
      rw [show (1 : Int).toNat = 1 from rfl] at ixI
      rw [show (3 : Int).toNat = 3 from rfl] at ixJ
      have ldI : loadA Try.prog t 31 (elemPtr 5 b 1) = some (.agg (bareC (3, w1)).toArray) := hb.sees.loadAgg (P := Try.prog) agO szO (k := 1) (show 1 < 4 by decide)
      have ldJ : loadA Try.prog t 31 (elemPtr 5 b 3) = some (.agg (bareC (3, w3)).toArray) := hb.sees.loadAgg (P := Try.prog) agO szO (k := 3) (show 3 < 4 by decide)
      refine LB.Drawn.looseK A hAl 0 0 (by kernel_rfl) (by kernel_rfl) ?_
      simp (config := { maxSteps := 1000000, implicitDefEqProofs := false }) (disch := omega) only [allW, allR, allL, allB, Nat.sub_self, Nat.add_one_sub_one, Nat.reduceSub, oneOf, evalAll, partsA, optA, Nat.reduceLT, Nat.reduceLeDiff, Nat.reduceEqDiff, Nat.reduceAdd, ↓reduceIte, spare_zero, hn, h1, h5, h6, hb.self, ixI, ixJ, ldI, ldJ, lE _ (show 1 < 4 by decide), lE _ (show 3 < 4 by decide), valEq_elemPtr, bareSelf]
      refine LB.sstep_storeAgg szO (by decide) hb (show 1 < 4 by decide) rfl rfl (fun h => absurd rfl h) (fun _ h => hAl _ h) ?_
      intro t1 hb1 u1
      have hb1 : Own t1 5 b 4 (rC [(3, w0), (3, w3), (3, w2), (3, w3)]) := hb1
      simp (config := { maxSteps := 1000000, implicitDefEqProofs := false }) (disch := omega) only [allW, allR, allL, allB, Nat.sub_self, Nat.add_one_sub_one, Nat.reduceSub, oneOf, evalAll, partsA, optA, Nat.reduceLT, Nat.reduceLeDiff, Nat.reduceEqDiff, Nat.reduceAdd, ↓reduceIte, hn, h1, h5, h6, hb.self, ixI, ixJ, valEq_elemPtr, bareSelf]
      refine LB.sstep_storeAgg szO (by decide) hb1 (show 3 < 4 by decide) rfl rfl (fun h => absurd rfl h) (fun _ h => Nat.lt_of_lt_of_le (hAl _ h) u1.next) ?_
      intro t2 hb2 u2
      have hb2 : Own t2 5 b 4 (rC [(3, w0), (3, w3), (3, w2), (3, w1)]) := hb2
      simp (config := { maxSteps := 1000000, implicitDefEqProofs := false }) (disch := omega) only [allW, allR, allL, allB, Nat.sub_self, Nat.add_one_sub_one, Nat.reduceSub, oneOf, evalAll, partsA, optA, Nat.reduceLT, Nat.reduceLeDiff, Nat.reduceEqDiff, Nat.reduceAdd, ↓reduceIte, hn, h1, h5, h6]
      exact go2 _ _ _ _ _ _ hw4' ((ha.turns u1 (fun j e e2 => hab j e e2)).turns u2 (fun j e e2 => hab j e e2)) hb2 (by simp only [get_put, n_put, ↓reduceIte, Nat.reduceEqDiff, hn]) (by simp only [get_put, n_put, ↓reduceIte, Nat.reduceEqDiff, h1]) (by simp only [get_put, n_put, ↓reduceIte, Nat.reduceEqDiff, h5]) (by simp only [get_put, n_put, ↓reduceIte, Nat.reduceEqDiff, h6])
  simp (config := { maxSteps := 1000000, implicitDefEqProofs := false }) (disch := omega) only [allW, allR, oneOf, evalAll, partsA, optA, Nat.reduceLT, Nat.reduceLeDiff, Nat.reduceEqDiff, Nat.reduceAdd, ↓reduceIte, hn, h1, h5, h6, bin_and]
  refine wif_cases (fun _ => ?_) (fun _ => ?_)
  rotate_left
  · simp (config := { maxSteps := 1000000, implicitDefEqProofs := false }) (disch := omega) only [allW, allR, oneOf, evalAll, partsA, optA, Nat.reduceLT, Nat.reduceLeDiff, Nat.reduceEqDiff, Nat.reduceAdd, ↓reduceIte, hn, h1, h5, h6]
    exact go1 _ _ _ _ _ _ rfl ha hb (by simp only [get_put, n_put, ↓reduceIte, Nat.reduceEqDiff, hn]) (by simp only [get_put, n_put, ↓reduceIte, Nat.reduceEqDiff, h1]) (by simp only [get_put, n_put, ↓reduceIte, Nat.reduceEqDiff, h5]) (by simp only [get_put, n_put, ↓reduceIte, Nat.reduceEqDiff, h6])
  have hw4' : box4 [p2, p1, p0, p3] = box4 [p0, p1, p2, p3] := by
    show [minI p2 p0, minI p1 p3, maxI p2 p0, maxI p1 p3] = [minI p0 p2, minI p1 p3, maxI p0 p2, maxI p1 p3]
    rw [minI_comm p2 p0, maxI_comm p2 p0]
  simp (config := { maxSteps := 1000000, implicitDefEqProofs := false }) (disch := omega) only [allW, allR, oneOf, evalAll, partsA, optA, Nat.reduceLT, Nat.reduceLeDiff, Nat.reduceEqDiff, Nat.reduceAdd, ↓reduceIte, hn, h1, h5, h6]
  · obtain ⟨A, hA⟩ : ∃ A : Nat → Bool, A = fun j => decide (j < t.next) := ⟨_, rfl⟩
    have hAl : ∀ j, A j = true → j < t.next := by
      intro j h
      rw [hA] at h
      exact of_decide_eq_true h
    have hAo : ∀ j, j < t.next → A j = true := fun j h => by rw [hA]; exact decide_eq_true h
    have lE := fun k => LA.lowV_elemOld hb.sees hAo (k := k)
    have ixI := hb.sees.indexAddr (P := Try.prog) (k := .i64) (x := 0) Try.underlying28 szO (by decide) (show (0 : Int) < (4 : Nat) by decide)
    have ixJ := hb.sees.indexAddr (P := Try.prog) (k := .i64) (x := 2) Try.underlying28 szO (by decide) (show (2 : Int) < (4 : Nat) by decide)
    rw [show (0 : Int).toNat = 0 from rfl] at ixI
    rw [show (2 : Int).toNat = 2 from rfl] at ixJ
    have ldI : loadA Try.prog t 31 (elemPtr 5 b 0) = some (.agg (bareC (3, p0)).toArray) := hb.sees.loadAgg (P := Try.prog) agO szO (k := 0) (show 0 < 4 by decide)
    have ldJ : loadA Try.prog t 31 (elemPtr 5 b 2) = some (.agg (bareC (3, p2)).toArray) := hb.sees.loadAgg (P := Try.prog) agO szO (k := 2) (show 2 < 4 by decide)
    refine LB.Drawn.looseK A hAl 0 0 (by kernel_rfl) (by kernel_rfl) ?_
    simp (config := { maxSteps := 1000000, implicitDefEqProofs := false }) (disch := omega) only [allW, allR, allL, allB, Nat.sub_self, Nat.add_one_sub_one, Nat.reduceSub, oneOf, evalAll, partsA, optA, Nat.reduceLT, Nat.reduceLeDiff, Nat.reduceEqDiff, Nat.reduceAdd, ↓reduceIte, spare_zero, hn, h1, h5, h6, hb.self, ixI, ixJ, ldI, ldJ, lE _ (show 0 < 4 by decide), lE _ (show 2 < 4 by decide), valEq_elemPtr, bareSelf]
    refine LB.sstep_storeAgg szO (by decide) hb (show 0 < 4 by decide) rfl rfl (fun h => absurd rfl h) (fun _ h => hAl _ h) ?_
    intro t1 hb1 u1
    have hb1 : Own t1 5 b 4 (rC [(3, p2), (3, p1), (3, p2), (3, p3)]) := hb1
    simp (config := { maxSteps := 1000000, implicitDefEqProofs := false }) (disch := omega) only [allW, allR, allL, allB, Nat.sub_self, Nat.add_one_sub_one, Nat.reduceSub, oneOf, evalAll, partsA, optA, Nat.reduceLT, Nat.reduceLeDiff, Nat.reduceEqDiff, Nat.reduceAdd, ↓reduceIte, hn, h1, h5, h6, hb.self, ixI, ixJ, valEq_elemPtr, bareSelf]
    refine LB.sstep_storeAgg szO (by decide) hb1 (show 2 < 4 by decide) rfl rfl (fun h => absurd rfl h) (fun _ h => Nat.lt_of_lt_of_le (hAl _ h) u1.next) ?_
    intro t2 hb2 u2
    have hb2 : Own t2 5 b 4 (rC [(3, p2), (3, p1), (3, p0), (3, p3)]) := hb2
    simp (config := { maxSteps := 1000000, implicitDefEqProofs := false }) (disch := omega) only [allW, allR, allL, allB, Nat.sub_self, Nat.add_one_sub_one, Nat.reduceSub, oneOf, evalAll, partsA, optA, Nat.reduceLT, Nat.reduceLeDiff, Nat.reduceEqDiff, Nat.reduceAdd, ↓reduceIte, hn, h1, h5, h6]
    exact go1 _ _ _ _ _ _ hw4' ((ha.turns u1 (fun j e e2 => hab j e e2)).turns u2 (fun j e e2 => hab j e e2)) hb2 (by simp only [get_put, n_put, ↓reduceIte, Nat.reduceEqDiff, hn]) (by simp only [get_put, n_put, ↓reduceIte, Nat.reduceEqDiff, h1]) (by simp only [get_put, n_put, ↓reduceIte, Nat.reduceEqDiff, h5]) (by simp only [get_put, n_put, ↓reduceIte, Nat.reduceEqDiff, h6])
theorem own : ownKnob Try.prog.godebug = none := by kernel_rfl
theorem sound : progOk Try.prog libN = true := by kernel_rfl
theorem laid : laidOutB Try.prog = true := by kernel_rfl
theorem read : ∀ t ∈ Try.f6.params.toList, Try.prog.readableRec t = true ∧ t < Try.prog.types.size := by
  have : (Try.f6.params.toList.all fun t => Try.prog.readableRec t && decide (t < Try.prog.types.size)) = true := by kernel_rfl
  intro t ht
  simpa using List.all_eq_true.mp this t ht
set_option maxRecDepth 100000 in
theorem lifted (os : Os) (started : os.Started) (H : Type) (enc : TypeId × Value → H) :
    ReturnsInHanded {} Try.checked os 6 .any (Rows.pagesBoxesSpec.pre6 enc Try.prog Try.f6 Rows.pagesBoxesRow.domain false) (Rows.pagesBoxesSpec.post enc Try.prog Try.f6 false true false false) := by
  refine returnsInHanded_of_change (C := Try.checked) own started (by kernel_rfl) Try.func6
    (ChangeSpec.witness6 (enc := enc) (C := Try.checked) false ⟨#[], #[.agg #[.int .i32 0, .int .i32 0, .int .i32 0, .int .i32 0], .int .u8 0], []⟩ 8 (by kernel_rfl) (by kernel_rfl) (by kernel_rfl) (by kernel_rfl)) ?_
  intro W base args ds gs before hval hW hcnd _
  obtain ⟨p, q, hA, _, _, _, _⟩ := id hW
  have hA : DataW.TrodAll enc Try.prog W 0 (fun _ => true) true Try.f6.params.toList args.toList ds p := hA
  rw [Try.params6] at hA
  obtain ⟨v0, v1, d0, d1, p0, p1, rfl, rfl, rfl, h0, h1⟩ := trodAll_two hA
  have hv0 : Value.okWide Try.prog W .any base 64 v0 := hval 0 _ _ (by rw [Try.params6]; rfl) rfl
  have hv1 : Value.okWide Try.prog W .any base 5 v1 := hval 1 _ _ (by rw [Try.params6]; rfl) rfl
  obtain ⟨n0, rfl, hl0, hz0⟩ := open_arr Try.underlying64 Try.underlying21 (by kernel_rfl) (by kernel_rfl) hv0 h0
  obtain ⟨n1, rfl, _, _, hz1⟩ := open_int Try.underlying5 hv1 h1
  have hcalls := Runs.callsL libFr (libOk _) sound rfl (Begun.start W) (law (St.start W).s n0 n1 (SR.start W).wf rfl hl0 hz0 hz1) (args' := #[.agg (n0.map (Value.int .i32)).toArray, .int .u8 n1]) (VRL.cons (VR.arr _ _ _) (VRL.cons (.int _ _) VRL.nil))
  refine hcalls.mono fun e W' ⟨he, hb⟩ => ?_
  subst he
  exact law_post laid read rfl Try.underlying4 rfl (fun L hL => by match L, hL with | [a0, a1], _ => rfl) hW hb
theorem over : Rows.pagesBoxesRow.holds Try.pinned (OpenSpec.ofChange Rows.pagesBoxesSpec) :=
  OpenClaim.holds_of_wide 6 Try.f6 rfl rfl rfl rfl rfl rfl rfl ⟨rfl, rfl, rfl, rfl, rfl⟩ rfl rfl rfl rfl rfl (by kernel_rfl) Try.func6 (by kernel_rfl)
    (of_decide_eq_true (by kernel_rfl)) (by unfold Func.isWrapper; first | (rw [if_pos (by decide +kernel)]; kernel_rfl) | (rw [if_neg (by decide +kernel)]; exact ⟨rfl, rfl⟩))
    (fun os started H enc _ => lifted os started H enc)
theorem proved : Rows.PagesBoxesSaid := over
#print axioms proved
end Go.Proofs.Ytokfoagohblkoaa.pagesBoxes
