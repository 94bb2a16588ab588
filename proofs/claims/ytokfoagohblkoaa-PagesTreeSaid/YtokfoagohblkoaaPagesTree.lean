/-
  The statement PagesTree: pages that stand in whatever tree are found in order, each once; what a node has goes to all below it that have it not: the law returns true.
  Conditions: none.
-/
import Derived.Test.YtokfoagohblkoaaRows
import Derived.Test.YtokfoagohblkoaaPgV
import Derived.Test.YtokfoagohblkoaaLibR
set_option linter.unusedSimpArgs false
set_option linter.unusedVariables false
set_option maxRecDepth 100000
namespace Go.Proofs.Ytokfoagohblkoaa.pagesTree
open Go.ChangeShapes Go.WideShapes Go.ChangeAt Go.RowKit Go.Cl Go.Lib
theorem boxNeP {l : List Int} (hl : l.length = 4) : binA Try.prog .neq 37 (.agg (i64V l).toArray) (.agg (i64V l).toArray) = some (.bool false) := by
  obtain ⟨a, b, c, d, rfl⟩ := four hl
  have g : Try.prog.eqGuardType Try.prog.depth 37 = false := by kernel_rfl
  have h : arrEqA Try.prog 37 (i64V [a, b, c, d]).toArray (i64V [a, b, c, d]).toArray = some true := by
    unfold arrEqA
    rw [Try.underlying37]
    simp only [Try.underlying2, szI64, g]
    simp [i64V, intsEqA]
  show (match arrEqA Try.prog 37 (i64V [a, b, c, d]).toArray (i64V [a, b, c, d]).toArray with
    | some b => some (Value.bool !b)
    | none => none) = _
  rw [h]; rfl
theorem efQ {s : ASt} {v : Value} {n : Nat} {l : List Value} (h : Sees s 20 v n l) {k : Nat} (hk : k < n) : fieldAddrA Try.prog 57 (elemPtr 20 v k) 0 = some (plusPtr (elemPtr 20 v k) 0) ∧ fieldAddrA Try.prog 57 (elemPtr 20 v k) 1 = some (plusPtr (elemPtr 20 v k) 14) ∧ fieldAddrA Try.prog 55 (plusPtr (elemPtr 20 v k) 0) 0 = some (plusPtr (elemPtr 20 v k) 0) ∧ fieldAddrA Try.prog 55 (plusPtr (elemPtr 20 v k) 0) 1 = some (plusPtr (elemPtr 20 v k) 4) ∧ fieldAddrA Try.prog 55 (plusPtr (elemPtr 20 v k) 0) 2 = some (plusPtr (elemPtr 20 v k) 8) := by
  obtain ⟨i, off, c, e, _⟩ := h.cells hk
  rw [e]
  exact ⟨pp0 _ _ _, pp1 _ _ _, lf0 _ _ _, lf1 _ _ _, lf2 _ _ _⟩
theorem efW {s : ASt} {v : Value} {n : Nat} {l : List Value} (h : Sees s 20 v n l) {k : Nat} (hk : k < n) : fieldAddrA Try.prog 52 (elemPtr 20 v k) 0 = some (plusPtr (elemPtr 20 v k) 0) ∧ fieldAddrA Try.prog 52 (elemPtr 20 v k) 1 = some (plusPtr (elemPtr 20 v k) 14) ∧ fieldAddrA Try.prog 50 (plusPtr (elemPtr 20 v k) 0) 2 = some (plusPtr (elemPtr 20 v k) 8) := by
  obtain ⟨i, off, c, e, _⟩ := h.cells hk
  rw [e]
  exact ⟨rp0 _ _ _, rp1 _ _ _, rl2 _ _ _⟩
set_option maxRecDepth 100000 in
set_option maxHeartbeats 16000000 in
theorem law (s : ASt) (x : Value) (l : List UInt8) (hw : WF s) (hk : s.next = 1) (hx : Sees s 1 x l.length (ofBytes l)) :
    Runs Try.prog libN 5 [x] s fun v _ => v = .bool true := by
  obtain ⟨QQ, hQQ⟩ : ∃ QQ : Value → ASt → Prop, QQ = fun v _ => v = .bool true := ⟨_, rfl⟩
  rw [← hQQ]
  clear hw hk
  refine Runs.enter 89 Try.func5 rfl rfl rfl rfl ?_
  intro f hn hf
  have h0 : f.get 0 = x := hf 0
  clear hf
  simp (config := { maxSteps := 1000000, implicitDefEqProofs := false }) (disch := omega) only [allW, allR, oneOf, evalAll, partsA, optA, Nat.reduceLT, Nat.reduceLeDiff, Nat.reduceEqDiff, Nat.reduceAdd, ↓reduceIte, hn, h0]
  refine (awakeP s).mono ?_
  rintro _ s1 ⟨rfl, k1⟩
  have hx1 := hx.keeps k1
  have hln := hx1.lenA (P := Try.prog) (s2 := s1) Try.underlying27
  by_cases hb : 60 < l.length
  · have d1 : (60 : Int) < (l.length : Int) := by omega
    simp (config := { maxSteps := 1000000, implicitDefEqProofs := false }) (disch := omega) only [allW, allR, oneOf, evalAll, partsA, optA, Nat.reduceLT, Nat.reduceLeDiff, Nat.reduceEqDiff, Nat.reduceAdd, ↓reduceIte, allW, allR, wfn_ret, wfn_normal, oneOf, evalAll, partsA, optA, Nat.reduceLT, Nat.reduceLeDiff, Nat.reduceEqDiff, Nat.reduceAdd, ↓reduceIte, hn, h0, Bool.not_true, hln, eq_true d1, Try.results5]
    rw [hQQ]
  have d1 : ¬ (60 : Int) < (l.length : Int) := by omega
  simp (config := { maxSteps := 1000000, implicitDefEqProofs := false }) (disch := omega) only [allW, allR, oneOf, evalAll, partsA, optA, Nat.reduceLT, Nat.reduceLeDiff, Nat.reduceEqDiff, Nat.reduceAdd, ↓reduceIte, hn, h0, Bool.not_true, hln, eq_false d1]
  refine (grown_any s1 x l hx1 (by omega)).mono ?_
  rintro _ s2 ⟨tc, iv, ic, pv, rfl, hD, hP, k2⟩
  obtain ⟨g, hg⟩ : ∃ g, g = growN (l.map UInt8.toNat) := ⟨_, rfl⟩
  rw [← hg] at hD hP
  obtain ⟨hz, hi1, hi2, -⟩ := growN_ok (l.map UInt8.toNat) (by simp; omega)
  rw [← hg] at hz hi1 hi2
  rw [List.length_map] at hi1 hi2
  have hinv : InvS g := by rw [hg]; exact inv_all _
  obtain ⟨g1, g2⟩ := grown_pages hinv (by omega) (by omega)
  have hsm := grown_small hz (by omega)
  have htl := hD.trailer.len
  have hd10 : noneD.length + 1 = 10 := rfl
  have hDl := docC_len hD
  have hDo := docC_ok hD
  obtain ⟨D, hDD⟩ : ∃ D : Dc, D = ⟨0, [], 0, trailerT, g.items⟩ := ⟨_, rfl⟩
  have hdc : docC ⟨0, [], 0, trailerT, []⟩ (.slice none 0 0) tc iv = docC D (.slice none 0 0) tc iv := by rw [hDD]; rfl
  have hgi : g.items = D.items := by rw [hDD]
  have hgt : trailerT = D.trailer := by rw [hDD]
  rw [← hDD] at hD hsm hDl hDo
  rw [hgi, hgt] at g1 g2
  rw [hdc]
  simp (config := { maxSteps := 1000000, implicitDefEqProofs := false }) (disch := omega) only [allW, allR, oneOf, evalAll, partsA, optA, Nat.reduceLT, Nat.reduceLeDiff, Nat.reduceEqDiff, Nat.reduceAdd, ↓reduceIte, hn, h0, ext0, ext1, zDP, plD]
  refine wstep_newPtr ?_
  intro s3 ht3 k3 nx3
  simp (config := { maxSteps := 1000000, implicitDefEqProofs := false }) (disch := omega) only [allW, allR, oneOf, evalAll, partsA, optA, Nat.reduceLT, Nat.reduceLeDiff, Nat.reduceEqDiff, Nat.reduceAdd, ↓reduceIte, hn, h0, ext0, ext1, hd10]
  refine wstep_storeAll szD (by decide) ht3 rfl rfl hDl hDo ?_
  intro s4 ht4 nx4 ot4
  have ht4 : Thing s4 s2.next (docC D (.slice none 0 0) tc iv) := ht4
  have k4 : Stay s2.next s2 s4 := k3.trans ⟨by omega, fun j hj => ot4 j (by omega)⟩
  simp (config := { maxSteps := 1000000, implicitDefEqProofs := false }) (disch := omega) only [allW, allR, oneOf, evalAll, partsA, optA, Nat.reduceLT, Nat.reduceLeDiff, Nat.reduceEqDiff, Nat.reduceAdd, ↓reduceIte, hn, h0, ext0, ext1, db_all ht4 htl]
  refine (all_any (fun _ => True) s4 D _ tc _ _ (hD.keeps k4) hsm).mono ?_
  rintro _ s5 ⟨lv, lc, rfl, hlv, hR, -, -, k5⟩
  rw [g1]
  obtain ⟨L, hL⟩ : ∃ L, L = (pagesD D.items D.trailer).1 := ⟨_, rfl⟩
  rw [← hL] at g2 hlv hR
  have hll : L.length = g.want.length := by
    have := congrArg List.length g2
    simpa using this
  have hP5 := (hP.keeps k4).keeps k5
  have lnL := hlv.lenA (P := Try.prog) (s2 := s5) Try.underlying23
  have lnP := hP5.lenA (P := Try.prog) (s2 := s5) Try.underlying44
  have hll' : (L.length : Int) = (g.want.length : Int) := by omega
  have c0 : ((0 : Nat) : Int) = 0 := rfl
  simp (config := { maxSteps := 1000000, implicitDefEqProofs := false }) (disch := omega) only [allW, allR, oneOf, evalAll, partsA, optA, Nat.reduceLT, Nat.reduceLeDiff, Nat.reduceEqDiff, Nat.reduceAdd, ↓reduceIte, undef, hn, h0, ext0, ext1, c0, lnL, lnP, hll', decide_true, not_true]
  refine Comes.loopOut (fun z f t => ∃ i : Nat, z = L.length - i ∧ i ≤ L.length ∧ t = s5 ∧ f.n = 89 ∧ f.get 4 = pv ∧ f.get 5 = lv ∧ f.get 7 = .int .i64 (i : Nat))
    (fun z f t => z = .exit 0 ∧ f.n = 89)
    ⟨0, rfl, by omega, rfl, by simp only [get_put, n_put, ↓reduceIte, Nat.reduceEqDiff, hn], by simp only [get_put, n_put, ↓reduceIte, Nat.reduceEqDiff], by simp only [get_put, n_put, ↓reduceIte, Nat.reduceEqDiff], by simp only [get_put, n_put, ↓reduceIte, Nat.reduceEqDiff]; rfl⟩ ?_ ?_
  · clear hn h0 f
    rintro Q hQ z f t ⟨i, rfl, hi, rfl, hn, h4, h5, h7⟩
    by_cases hlt : i < L.length
    rotate_left
    · obtain rfl : i = L.length := by omega
      have d2 : ¬ ((L.length : Nat) : Int) < ((L.length : Nat) : Int) := by omega
      simp (config := { maxSteps := 1000000, implicitDefEqProofs := false }) (disch := omega) only [allW, allR, oneOf, evalAll, partsA, optA, Nat.reduceLT, Nat.reduceLeDiff, Nat.reduceEqDiff, Nat.reduceAdd, ↓reduceIte, hn, h4, h5, h7, lnL, eq_false d2]
      exact hQ _ _ _ ⟨rfl, by simp only [get_put, n_put, ↓reduceIte, Nat.reduceEqDiff, hn]⟩
    have d2 : (i : Int) < (L.length : Int) := by omega
    have hlw : i < g.want.length := by omega
    have hv : viewP L[i] = viewN g.want[i] := by
      have h1 : (L.map viewP)[i]? = (g.want.map viewN)[i]? := by rw [g2]
      rw [List.getElem?_map, List.getElem?_map, List.getElem?_eq_getElem hlt, List.getElem?_eq_getElem hlw] at h1
      simpa using h1
    unfold viewP viewN at hv
    simp only [Prod.mk.injEq] at hv
    obtain ⟨v1, v2, v3, v4⟩ := hv
    obtain ⟨rc, oc, ec, hm4, hc4, hrc, hoc⟩ := (hR.row i hlt).eqC
    have hrl := hR.len
    have row : ∀ j, j < 20 → lc.getD (i * 20 + j) undef = (pgC L[i].media L[i].crop L[i].rotate rc L[i].num oc).getD j undef := fun j hj => by
      rw [← ec, List.getD_eq_getElem?_getD, List.getD_eq_getElem?_getD, List.getElem?_take_of_lt hj, List.getElem?_drop]
    have hixL := hlv.indexAddr (P := Try.prog) (k := .i64) (x := (i : Int)) Try.underlying23 szPg (by omega) (by omega)
    have hixP := hP5.indexAddr (P := Try.prog) (k := .i64) (x := (i : Int)) Try.underlying44 szRp (by omega) (by omega)
    rw [Int.toNat_natCast] at hixL hixP
    obtain ⟨a0, a1, a2, a3, a4⟩ := efQ hlv hlt
    obtain ⟨b0, b1, b2⟩ := efW hP5 hlw
    have lNum := hlv.loadField (P := Try.prog) agInt hlt (j := 14) (by omega)
    rw [row 14 (by omega), pg_num hm4 hc4 hrc.len, v1] at lNum
    have lRot := hlv.loadField (P := Try.prog) agInt hlt (j := 8) (by omega)
    rw [row 8 (by omega), pg_rot hm4 hc4, v2] at lRot
    have lMed := hlv.loadPart (P := Try.prog) agBx szBx hlt (j := 0) (by omega)
    have eM : (lc.drop (i * 20 + 0)).take 4 = i64V unitB := by
      have h1 := pg_media (m := L[i].media) (c := L[i].crop) (r := L[i].rotate) (n := L[i].num) (rc := rc) (oc := oc) hm4
      rw [← ec, v3, List.drop_take, List.take_take, List.drop_drop] at h1
      exact h1
    have lCrop := hlv.loadPart (P := Try.prog) agBx szBx hlt (j := 4) (by omega)
    have eC : (lc.drop (i * 20 + 4)).take 4 = i64V unitB := by
      have h1 := pg_crop (m := L[i].media) (c := L[i].crop) (r := L[i].rotate) (n := L[i].num) (rc := rc) (oc := oc) hm4 hc4
      rw [← ec, v4, List.drop_take, List.take_take, List.drop_drop] at h1
      exact h1
    rw [eM] at lMed
    rw [eC] at lCrop
    have wNum := hP5.loadField (P := Try.prog) agInt hlw (j := 14) (by omega)
    rw [wantC_get _ _ _ (by omega) hlw] at wNum
    have wNum : loadA Try.prog t 3 (plusPtr (elemPtr 20 pv i) 14) = some (.int .i64 (g.want[i].1 : Int)) := wNum
    have wRot := hP5.loadField (P := Try.prog) agInt hlw (j := 8) (by omega)
    rw [wantC_get _ _ _ (by omega) hlw] at wRot
    have wRot : loadA Try.prog t 3 (plusPtr (elemPtr 20 pv i) 8) = some (.int .i64 g.want[i].2) := wRot
    have bn : binA Try.prog .neq 37 (.agg (i64V unitB).toArray) (.agg (i64V unitB).toArray) = some (.bool false) := boxNeP rfl
    have bn2 : binA Try.prog .neq 37 (.agg (i64V unitB).toArray) (.agg #[.int .i64 0, .int .i64 0, .int .i64 100000, .int .i64 100000]) = some (.bool false) := boxNeP rfl
    have sv : valEq (.agg #[.int .i64 0, .int .i64 0, .int .i64 100000, .int .i64 100000]) (.agg #[.int .i64 0, .int .i64 0, .int .i64 100000, .int .i64 100000]) = true := by
      show valEqL [.int .i64 0, .int .i64 0, .int .i64 100000, .int .i64 100000] [.int .i64 0, .int .i64 0, .int .i64 100000, .int .i64 100000] = true
      simp [valEqL, valEq1]
    have sv2 : valEq (.agg (i64V unitB).toArray) (.agg (i64V unitB).toArray) = true := sv
    simp (config := { maxSteps := 1000000, implicitDefEqProofs := false }) (disch := omega) only [allW, allR, oneOf, evalAll, partsA, optA, Nat.reduceLT, Nat.reduceLeDiff, Nat.reduceEqDiff, Nat.reduceAdd, ↓reduceIte, undef, hn, h4, h5, h7, lnL, eq_true d2, sv, sv2, wrapI, hixL, hixP, a0, a1, a2, a3, a4, b0, b1, b2, lNum, lRot, lMed, lCrop, wNum, wRot, bn, bn2, b4Bx, decide_true, not_true, hlv.self, hP5.self, valEq_plus, valEq_elemPtr]
    exact wround_next (L.length - (i + 1)) (by omega) ⟨i + 1, rfl, by omega, rfl, by simp only [get_put, n_put, ↓reduceIte, Nat.reduceEqDiff, hn], by simp only [get_put, n_put, ↓reduceIte, Nat.reduceEqDiff, h4], by simp only [get_put, n_put, ↓reduceIte, Nat.reduceEqDiff, h5], by simp only [get_put, n_put, ↓reduceIte, Nat.reduceEqDiff]; rfl⟩
  clear hn h0 f
  rintro z f t ⟨rfl, hn⟩
  simp (config := { maxSteps := 1000000, implicitDefEqProofs := false }) (disch := omega) only [allW, allR, wfn_ret, wfn_normal, oneOf, evalAll, partsA, optA, Nat.reduceLT, Nat.reduceLeDiff, Nat.reduceEqDiff, Nat.reduceAdd, ↓reduceIte, hn, Try.results5]
  rw [hQQ]
theorem own : ownKnob Try.prog.godebug = none := by kernel_rfl
theorem sound : progOk Try.prog libN = true := by kernel_rfl
theorem laid : laidOutB Try.prog = true := by kernel_rfl
theorem read : ∀ t ∈ Try.f5.params.toList, Try.prog.readableRec t = true ∧ t < Try.prog.types.size := by
  have : (Try.f5.params.toList.all fun t => Try.prog.readableRec t && decide (t < Try.prog.types.size)) = true := by kernel_rfl
  intro t ht
  simpa using List.all_eq_true.mp this t ht
theorem cellsu8 : Try.prog.cellsOf 5 = 1 := by kernel_rfl
set_option maxRecDepth 100000 in
theorem lifted (os : Os) (started : os.Started) (H : Type) (enc : TypeId × Value → H) :
    ReturnsInHanded {} Try.checked os 5 .any (Rows.pagesTreeSpec.pre6 enc Try.prog Try.f5 Rows.pagesTreeRow.domain false) (Rows.pagesTreeSpec.post enc Try.prog Try.f5 false true false false) := by
  refine returnsInHanded_of_change (C := Try.checked) own started (by kernel_rfl) Try.func5
    (ChangeSpec.witness6 (enc := enc) (C := Try.checked) false ⟨#[], #[.slice none 0 0], []⟩ 8 (by kernel_rfl) (by kernel_rfl) (by kernel_rfl) (by kernel_rfl)) ?_
  intro W base args ds gs before hval hW hcnd _
  obtain ⟨p, q, hA, _, _, _, _⟩ := id hW
  have hA : DataW.TrodAll enc Try.prog W 0 (fun _ => true) true Try.f5.params.toList args.toList ds p := hA
  rw [Try.params5] at hA
  obtain ⟨v0, d0, rfl, rfl, h0⟩ := trodAll_one hA
  have hv0 : Value.okWide Try.prog W .any base 27 v0 := hval 0 _ _ (by rw [Try.params5]; rfl) rfl
  obtain ⟨S0, x0, l0, hj0, hx0⟩ := (Begun.start W).bytes Try.underlying27 Try.underlying5 cellsu8 hv0 h0
  have hcalls := Runs.callsL libFr (libOk _) sound rfl hj0.begun (law S0.s x0 l0 hj0.begun.sr.wf (by rw [hj0.next]; rfl) hx0) (args' := #[v0]) (VRL.cons hj0.vr VRL.nil)
  refine hcalls.mono fun e W' ⟨he, hb⟩ => ?_
  subst he
  exact law_post laid read rfl Try.underlying4 rfl (fun L hL => by match L, hL with | [a0], _ => rfl) hW hb
theorem over : Rows.pagesTreeRow.holds Try.pinned (OpenSpec.ofChange Rows.pagesTreeSpec) :=
  OpenClaim.holds_of_wide 5 Try.f5 rfl rfl rfl rfl rfl rfl rfl ⟨rfl, rfl, rfl, rfl, rfl⟩ rfl rfl rfl rfl rfl (by kernel_rfl) Try.func5 (by kernel_rfl)
    (of_decide_eq_true (by kernel_rfl)) (by unfold Func.isWrapper; first | (rw [if_pos (by decide +kernel)]; kernel_rfl) | (rw [if_neg (by decide +kernel)]; exact ⟨rfl, rfl⟩))
    (fun os started H enc _ => lifted os started H enc)
theorem proved : Rows.PagesTreeSaid := over
#print axioms proved
end Go.Proofs.Ytokfoagohblkoaa.pagesTree
