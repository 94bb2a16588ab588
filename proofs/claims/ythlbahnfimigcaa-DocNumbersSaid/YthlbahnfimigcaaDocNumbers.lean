/-
  The statement DocNumbers: any document, numbered by what its trailer reaches: its trailer, its objects; numbered again it is the same; all of it is reached: the law returns true.
  Conditions: none.
-/
import Derived.Test.YthlbahnfimigcaaRows
import Derived.Test.YthlbahnfimigcaaDocR
import Derived.Test.YthlbahnfimigcaaDocL
import Derived.Test.YthlbahnfimigcaaLibR
set_option linter.unusedSimpArgs false
set_option linter.unusedVariables false
namespace Go.Cl
def upTo (m : Nat) : List Int := (List.range m).map fun i => ((i + 1 : Nat) : Int)
theorem upTo_length (m : Nat) : (upTo m).length = m := by simp [upTo]
theorem upTo_get {m i : Nat} (h : i < (upTo m).length) : (upTo m)[i] = ((i + 1 : Nat) : Int) := by simp [upTo]
theorem num_walks {D : Dc} (h : SmallD D) {k : Nat} {r : List Int} (hk : WalksN D.items k (refsO D.trailer) [] r) : SmallD (numD D r) ∧ ∃ k', WalksN (numD D r).items k' (refsO (numD D r).trailer) [] (upTo r.length) ∧ k' ≤ 2000000 := by
  obtain ⟨hall, -⟩ := walks_from hk
  have hs := numD_small h hall.once hall.there
  obtain ⟨k', hk'⟩ := ren_walks hk hall.there
  obtain ⟨k2, r2, h2, h3⟩ := walks_small hs
  have e : refsO (numD D r).trailer = ((refsO D.trailer).filter fun n => decide (n ∈ r)).map (newN r) := refs_ren r _ D.trailer (Nat.le_refl _)
  have h2' := h2
  rw [e] at h2'
  have hk' : WalksN (numD D r).items k' (((refsO D.trailer).filter fun n => decide (n ∈ r)).map (newN r)) [] (r.map (newN r)) := hk'
  have := h2'.only hk'
  rw [newN_list hall.once] at this
  refine ⟨hs, k2, ?_, h3⟩
  rw [this] at h2
  exact h2
theorem num_again {D : Dc} {k : Nat} {r : List Int} (hk : WalksN D.items k (refsO D.trailer) [] r) : numD (numD D r) (upTo r.length) = numD D r := by
  obtain ⟨hall, -⟩ := walks_from hk
  have e1 : renO (upTo r.length) (renO r D.trailer) = renO r D.trailer := ren_again r _ D.trailer (Nat.le_refl _)
  have e2 : numI (numI D.items r) (upTo r.length) = numI D.items r := by
    refine List.ext_getElem (by rw [numI_length, numI_length, upTo_length]) (fun i h1 h2 => ?_)
    have hi : i < r.length := by rw [numI_length] at h2; exact h2
    have hi' : i < (upTo r.length).length := by rw [upTo_length]; exact hi
    rw [numI_get hi' h1, numI_get hi h2, upTo_get hi', ← newN_at hall.once hi, numI_find (List.getElem_mem hi)]
    rw [show renO (upTo r.length) (renO r (findD D.items r[i]).1) = renO r (findD D.items r[i]).1 from ren_again r _ _ (Nat.le_refl _)]
  show (⟨D.minor, D.mark, D.tail, renO (upTo r.length) (renO r D.trailer), numI (numI D.items r) (upTo r.length)⟩ : Dc) = ⟨D.minor, D.mark, D.tail, renO r D.trailer, numI D.items r⟩
  rw [e1, e2]
end Go.Cl
namespace Go.Proofs.Ythlbahnfimigcaa.docNumbers
open Go.ChangeShapes Go.WideShapes Go.ChangeAt Go.RowKit Go.Cl Go.Lib
theorem libRf : LibRf libN := by constructor <;> rfl
set_option maxRecDepth 100000 in
set_option maxHeartbeats 8000000 in
theorem law (s : ASt) (mv : Value) (tc : List Value) (iv : Value) (ic : List Value) (D : Dc) (hD : DocIs (fun _ => True) s mv tc iv ic D) (hfit : FitD D) :
    Runs Try.prog libN 4 [.agg (docC D mv tc iv).toArray] s fun v _ => v = .bool true := by
  obtain ⟨QQ, hQQ⟩ : ∃ QQ : Value → ASt → Prop, QQ = fun v _ => v = .bool true := ⟨_, rfl⟩
  rw [← hQQ]
  have htl := hD.trailer.len
  have dl := db_len (D := D) (mv := mv) (iv := iv) htl
  refine Runs.enter 48 Try.func4 rfl rfl rfl rfl ?_
  intro f hn hf
  have h0 : f.get 0 = .agg (docC D mv tc iv).toArray := hf 0
  clear hf
  simp (config := { maxSteps := 1000000, implicitDefEqProofs := false }) (disch := omega) only [allW, Nat.reduceLT, ↓reduceIte, hn, h0]
  refine wstep_newPtr ?_
  intro s1 ht1 hst1 hnx1
  have ht1 : Thing s1 s.next (docC D mv tc iv) := ht1
  simp (config := { maxSteps := 1000000, implicitDefEqProofs := false }) (disch := omega) only [allW, allR, evalAll, Nat.reduceLT, Nat.reduceAdd, ↓reduceIte, hn, dl]
  refine (awake_any rfl libRf rfl rfl rfl rfl rfl rfl rfl rfl rfl rfl rfl rfl s1).mono ?_
  rintro _ s2 ⟨rfl, k2⟩
  have ht2 := ht1.keeps k2
  have n1 := hst1.next
  have n2 := k2.next
  have hs2 : Stay s.next s s2 := hst1.trans (k2.weaken n1)
  simp (config := { maxSteps := 1000000, implicitDefEqProofs := false }) (disch := omega) only [allW, allR, evalAll, Nat.reduceLT, Nat.reduceEqDiff, ↓reduceIte, hn, db_all ht2 htl]
  refine (fair_any rfl rfl rfl rfl rfl rfl rfl rfl rfl _ s2 D mv tc iv ic (hD.lows.keeps hs2) hfit).mono ?_
  rintro _ s3 ⟨⟨u, rfl, hu⟩, k3⟩
  have n3 := k3.next
  have hs3 : Stay s.next s s3 := hs2.trans (k3.weaken (by omega))
  have ht3 := ht2.keeps k3
  cases u with
  | false =>
    simp (config := { maxSteps := 1000000, implicitDefEqProofs := false }) (disch := omega) only [allW, wfn_ret, oneOf, Nat.reduceLT, ↓reduceIte, hn, Try.results4]
    rw [hQQ]
  | true =>
  have hfair := hu rfl
  have hsm := hfair.small
  obtain ⟨k, r, hk, hk2⟩ := walks_small hsm
  have hrl := hk.size.2
  rw [List.length_nil, Nat.zero_add] at hrl
  obtain ⟨hsm2, k', hk', hk2'⟩ := num_walks hsm hk
  have hag := num_again hk
  simp (config := { maxSteps := 1000000, implicitDefEqProofs := false }) (disch := omega) only [allW, Nat.reduceLT, ↓reduceIte, hn]
  obtain ⟨B, hB⟩ : ∃ B : Nat → Bool, B = fun j => decide (j < s3.next) := ⟨_, rfl⟩
  have hBl : ∀ j, B j = true → j < s3.next := by
    intro j h
    rw [hB] at h
    exact of_decide_eq_true h
  have hBo : ∀ j, j < s3.next → B j = true := fun j h => by rw [hB]; exact decide_eq_true h
  refine LB.Drawn.looseK B hBl 2 2 (by kernel_rfl) (by kernel_rfl) ?_
  have hsq := Stay.spare s3 2
  have hnq : (spare s3 2).next = s3.next + 2 := spare_next _ _
  have mlb : ∀ k, LA.lowV B (some (.pointer (some ⟨s.next, k, some 10⟩))) = true := fun k => LA.lowV_ptr (A := B) (i := s.next) (hBo _ ht3.lt)
  have hD3 := (hD.lows.keeps hs3).keeps hsq
  have ht3q := ht3.keeps hsq
  simp (config := { maxSteps := 1000000, implicitDefEqProofs := false }) (disch := omega) only [allW, allR, allL, allB, Nat.add_one_sub_one, evalAll, Nat.reduceLT, Nat.reduceEqDiff, ↓reduceIte, hn, mlb, db_all ht3q htl, hD3.self]
  refine (number_any (lib := libN) rfl rfl rfl rfl rfl rfl rfl rfl rfl rfl rfl rfl rfl _ (spare s3 2) D mv tc iv ic hD3 hsm k r hk (by omega)).mono ?_
  rintro _ s4 ⟨xv, xc, yv, yc, rfl, hX, k4⟩
  have n4 := k4.next
  refine ⟨fun _ => LA.Stay.toA hBl (k4.weaken (by omega)), ?_⟩
  simp (config := { maxSteps := 1000000, implicitDefEqProofs := false }) (disch := omega) only [allW, allR, allL, allB, Nat.sub_self, evalAll, Nat.reduceLT, Nat.reduceEqDiff, ↓reduceIte, hn, mlb, db_all (ht3q.keeps k4) htl, hD3.self]
  refine (rnumber_any (lib := libN) rfl rfl rfl rfl rfl rfl rfl rfl _ s4 D mv tc iv ic (hD3.keeps k4) hsm k r hk (by omega)).mono ?_
  rintro _ s5 ⟨xv', xc', yv', yc', rfl, hY, k5⟩
  have n5 := k5.next
  refine ⟨fun _ => LA.Stay.toA hBl (k5.weaken (by omega)), ?_⟩
  have hX5 := hX.keeps k5
  have hxl := hX.trailer.len
  have hxl' := hY.trailer.len
  have lX := docC_len hX
  have kX := docC_ok hX
  have lY := docC_len hY
  have kY := docC_ok hY
  have hd10 : noneD.length + 1 = 10 := rfl
  simp (config := { maxSteps := 1000000, implicitDefEqProofs := false }) (disch := omega) only [allW, ↓reduceIte, zD, plD]
  refine LB.smake_newPtr (by omega) ?_
  intro s6 ht6 hnx6 hot6
  simp (config := { maxSteps := 1000000, implicitDefEqProofs := false }) (disch := omega) only [allW, allB, Nat.reduceLT, ↓reduceIte, hn, zD, plD]
  refine LB.smake_newPtr (by omega) ?_
  intro s7 ht7 hnx7 hot7
  simp (config := { maxSteps := 1000000, implicitDefEqProofs := false }) (disch := omega) only [allW, allB, Nat.reduceLT, Nat.reduceEqDiff, ↓reduceIte, hn, hd10]
  refine LB.sstep_storeAll szD (by decide) (ht6.ofPut hnx7 hot7 (by omega)) rfl rfl (by simpa using lX) kX (fun h => absurd rfl h) ?_
  intro s8 ht8 hnx8 hot8
  have ht8 : Thing s8 s3.next (docC (numD D r) xv xc yv) := ht8
  simp (config := { maxSteps := 1000000, implicitDefEqProofs := false }) (disch := omega) only [allW, allB, Nat.reduceSub, Nat.reduceLT, Nat.reduceEqDiff, ↓reduceIte, hn]
  refine LB.sstep_storeAll szD (by decide) (ht7.ofPut hnx8 hot8 (by omega)) rfl rfl (by simpa using lY) kY (fun h => absurd rfl h) ?_
  intro s9 ht9 hnx9 hot9
  have ht9 : Thing s9 (s3.next + 1) (docC (numD D r) xv' xc' yv') := ht9
  have ht89 := ht8.ofPut hnx9 hot9 (by omega)
  have ne : ∀ (p j : Nat), (spare s3 2).next ≤ j → p < s3.next + 2 → idOf (.pointer (some ⟨p, 0, none⟩)) ≠ some j := fun p j hj hp e => by
    have e : some p = some j := e
    injection e with e; omega
  have hX9 : DocIs (fun j => (spare s3 2).next ≤ j) s9 xv xc yv yc (numD D r) := (((hX5.turns (Turns.ofPut hnx6 hot6) (fun j hj => ne _ j hj (by omega))).turns (Turns.ofPut hnx7 hot7) (fun j hj => ne _ j hj (by omega))).turns (Turns.ofPut hnx8 hot8) (fun j hj => ne _ j hj (by omega))).turns (Turns.ofPut hnx9 hot9) (fun j hj => ne _ j hj (by omega))
  have hY9 : DocIs (fun j => s4.next ≤ j) s9 xv' xc' yv' yc' (numD D r) := (((hY.turns (Turns.ofPut hnx6 hot6) (fun j hj => ne _ j (by omega) (by omega))).turns (Turns.ofPut hnx7 hot7) (fun j hj => ne _ j (by omega) (by omega))).turns (Turns.ofPut hnx8 hot8) (fun j hj => ne _ j (by omega) (by omega))).turns (Turns.ofPut hnx9 hot9) (fun j hj => ne _ j (by omega) (by omega))
  have n9 : s3.next + 2 ≤ s9.next := by omega
  simp (config := { maxSteps := 1000000, implicitDefEqProofs := false }) (disch := omega) only [allW, allB, Nat.reduceSub, allW]
  obtain ⟨C, hC⟩ : ∃ C : Nat → Bool, C = fun j => decide (j < s9.next) := ⟨_, rfl⟩
  have hCl : ∀ j, C j = true → j < s9.next := by
    intro j h
    rw [hC] at h
    exact of_decide_eq_true h
  have hCo : ∀ j, j < s9.next → C j = true := fun j h => by rw [hC]; exact decide_eq_true h
  refine LB.Drawn.looseK C hCl 2 0 (by kernel_rfl) (by kernel_rfl) ?_
  have hsr := Stay.spare s9 0
  have hnr : (spare s9 0).next = s9.next + 0 := spare_next _ _
  have ml1 : ∀ k, LA.lowV C (some (.pointer (some ⟨s3.next, k, some 10⟩))) = true := fun k => LA.lowV_ptr (A := C) (i := s3.next) (hCo _ (by omega))
  have ml2 : ∀ k, LA.lowV C (some (.pointer (some ⟨s3.next + 1, k, some 10⟩))) = true := fun k => LA.lowV_ptr (A := C) (i := s3.next + 1) (hCo _ (by omega))
  have wB : ∀ b, valEq (.bool b) (.bool b) = true := fun b => by cases b <;> rfl
  have tA := ht89.keeps hsr
  have tB := ht9.keeps hsr
  have XA := hX9.keeps hsr
  have YA := hY9.keeps hsr
  simp (config := { maxSteps := 1000000, implicitDefEqProofs := false }) (disch := omega) only [allW, allR, allL, allB, Nat.add_one_sub_one, evalAll, Nat.reduceLT, Nat.reduceEqDiff, ↓reduceIte, hn, ml1, ml2, db_all tA hxl, db_all tB hxl', XA.self, YA.self]
  refine (sameDoc_any (lib := libN) rfl rfl rfl rfl _ _ (spare s9 0) (numD D r) xv xc yv yc XA xv' xc' yv' yc' YA hsm2).mono ?_
  rintro _ sa ⟨rfl, ka⟩
  have na := ka.next
  refine ⟨fun _ => LA.Stay.toA hCl (ka.weaken (by omega)), ?_⟩
  have tA := tA.keeps ka
  have XA := XA.keeps ka
  simp (config := { maxSteps := 1000000, implicitDefEqProofs := false }) (disch := omega) only [allW, allR, allL, allB, Nat.sub_self, evalAll, Nat.reduceLT, Nat.reduceEqDiff, ↓reduceIte, hn, ml1, wB, db_all tA hxl, XA.self]
  refine (number_any (lib := libN) rfl rfl rfl rfl rfl rfl rfl rfl rfl rfl rfl rfl rfl _ sa (numD D r) xv xc yv yc XA hsm2 k' _ hk' (by omega)).mono ?_
  rw [hag]
  rintro _ sb ⟨zv, zc, wv, wc, rfl, hZ, kb⟩
  have nb := kb.next
  refine ⟨fun _ => LA.Stay.toA hCl (kb.weaken (by omega)), ?_⟩
  have tA := tA.keeps kb
  have XA := XA.keeps kb
  simp (config := { maxSteps := 1000000, implicitDefEqProofs := false }) (disch := omega) only [allW, allR, allL, allB, Nat.reduceSub, evalAll, Nat.reduceLT, Nat.reduceEqDiff, ↓reduceIte, hn, ml1, db_all tA hxl, XA.self]
  refine (sameDoc_any (lib := libN) rfl rfl rfl rfl _ _ sb (numD D r) zv zc wv wc hZ xv xc yv yc XA hsm2).mono ?_
  rintro _ sc ⟨rfl, kc⟩
  have nc := kc.next
  refine ⟨fun h => h.elim, ?_⟩
  have tA := tA.keeps kc
  have XA := XA.keeps kc
  simp (config := { maxSteps := 1000000, implicitDefEqProofs := false }) (disch := omega) only [allW, allR, allL, allB, evalAll, Nat.reduceLT, Nat.reduceEqDiff, ↓reduceIte, allW, allR, evalAll, Nat.reduceLT, Nat.reduceEqDiff, ↓reduceIte, hn, wB, db_all tA hxl]
  refine (reach_any (lib := libN) rfl rfl rfl rfl rfl rfl rfl rfl _ sc (numD D r) xv xc yv yc XA hsm2 k' _ hk' (by omega)).mono ?_
  rintro lv sd ⟨hlv, hlF, kd⟩
  have tA := tA.keeps kd
  have XA := XA.keeps kd
  have hul := upTo_length r.length
  simp (config := { maxSteps := 1000000, implicitDefEqProofs := false }) (disch := omega) only [allW, Nat.reduceLT, ↓reduceIte, hn]
  refine Comes.loopOut (fun z f t => ∃ i : Nat, z = r.length - i ∧ i ≤ r.length ∧ Stay sd.next sd t ∧ f.n = 48 ∧ f.get 3 = .pointer (some ⟨s3.next, 0, some 10⟩) ∧ f.get 5 = lv ∧ f.get 6 = .int .i64 (i : Nat))
    (fun z f t => z = .exit 0 ∧ Stay sd.next sd t ∧ f.n = 48 ∧ f.get 3 = .pointer (some ⟨s3.next, 0, some 10⟩) ∧ f.get 5 = lv)
    ⟨0, rfl, by omega, Stay.refl _ _, by simp only [n_put, hn], by simp only [get_put, ↓reduceIte, Nat.reduceEqDiff], by simp only [get_put, ↓reduceIte, Nat.reduceEqDiff], by simp only [get_put, ↓reduceIte]; rfl⟩ ?_ ?_
  · clear hn h0 f
    rintro Q hQ z f t ⟨i, rfl, hi, ht, hn, h3, h5, h6⟩
    have hlt0 := hlv.keeps ht
    by_cases hlt : i < r.length
    rotate_left
    · obtain rfl : i = r.length := by omega
      have d1 : ¬ ((r.length : Nat) : Int) < (((upTo r.length).length : Nat) : Int) := by omega
      simp (config := { maxSteps := 1000000, implicitDefEqProofs := false }) (disch := omega) only [allW, evalAll, Nat.reduceLT, Nat.reduceEqDiff, ↓reduceIte, hn, h5, h6, hlt0.sees.lenA Try.underlying32, eq_false d1]
      exact hQ _ _ _ ⟨rfl, ht, by simp only [n_put, hn], by simp only [get_put, ↓reduceIte, Nat.reduceEqDiff, h3], by simp only [get_put, ↓reduceIte, Nat.reduceEqDiff, h5]⟩
    have d1 : (i : Int) < (((upTo r.length).length : Nat) : Int) := by omega
    have hlu : i < (upTo r.length).length := by omega
    have hix := hlt0.sees.indexAddr (P := Try.prog) (k := .i64) (x := (i : Int)) Try.underlying32 szInt (by omega) (by omega)
    rw [Int.toNat_natCast] at hix
    have hli := hlt0.sees.load1 (P := Try.prog) agInt hlu
    rw [intsV_getD hlu, upTo_get hlu] at hli
    have hli : loadA Try.prog t 3 (elemPtr 1 lv i) = some (.int .i64 ((i : Int) + 1)) := hli
    simp (config := { maxSteps := 1000000, implicitDefEqProofs := false }) (disch := omega) only [allW, allR, evalAll, Nat.reduceLT, Nat.reduceEqDiff, ↓reduceIte, hn, h5, h6, hlt0.sees.lenA Try.underlying32, eq_true d1, hix, hli, wrapI]
    exact wround_next (r.length - (i + 1)) (by omega) ⟨i + 1, rfl, by omega, ht, by simp only [n_put, hn], by simp only [get_put, ↓reduceIte, Nat.reduceEqDiff, h3], by simp only [get_put, ↓reduceIte, Nat.reduceEqDiff, h5], by simp only [get_put, ↓reduceIte]; rfl⟩
  clear hn h0 f
  rintro z f t ⟨rfl, ht, hn, h3, h5⟩
  have hlt0 := hlv.keeps ht
  have XT := XA.keeps ht
  have hnl : (((upTo r.length).length : Nat) : Int) = (((numD D r).items.length : Nat) : Int) := by
    rw [upTo_length]
    show (r.length : Int) = ((numI D.items r).length : Int)
    rw [numI_length]
  simp (config := { maxSteps := 1000000, implicitDefEqProofs := false }) (disch := omega) only [allW, wfn_ret, oneOf, evalAll, Nat.reduceLT, Nat.reduceEqDiff, ↓reduceIte, hn, h3, h5, df4, hlt0.sees.lenA Try.underlying32, db_items (tA.keeps ht) hxl, XT.items.lenA Try.underlying27, hnl, Try.results4]
  rw [hQQ]
theorem own : ownKnob Try.prog.godebug = none := by kernel_rfl
theorem sound : progOk Try.prog libN = true := by kernel_rfl
theorem laid : laidOutB Try.prog = true := by kernel_rfl
theorem read : ∀ t ∈ Try.f4.params.toList, Try.prog.readableRec t = true ∧ t < Try.prog.types.size := by
  have : (Try.f4.params.toList.all fun t => Try.prog.readableRec t && decide (t < Try.prog.types.size)) = true := by kernel_rfl
  intro t ht
  simpa using List.all_eq_true.mp this t ht
set_option maxRecDepth 100000 in
theorem lifted (os : Os) (started : os.Started) (H : Type) (enc : TypeId × Value → H) :
    ReturnsInHanded {} Try.checked os 4 .any (Rows.docNumbersSpec.pre6 enc Try.prog Try.f4 Rows.docNumbersRow.domain false) (Rows.docNumbersSpec.post enc Try.prog Try.f4 false true false false) := by
  refine returnsInHanded_of_change_sized (C := Try.checked) own started (by kernel_rfl) Try.func4
    (ChangeSpec.witness6 (enc := enc) (C := Try.checked) false ⟨#[], #[.agg #[.int .i64 0, .slice none 0 0, .int .i64 0, .int .i64 0, .int .i64 0, .slice none 0 0, .slice none 0 0, .slice none 0 0, .slice none 0 0]], []⟩ 8 (by kernel_rfl) (by kernel_rfl) (by kernel_rfl) (by kernel_rfl)) ?_
  intro W base args ds gs before hval hW hcnd hsz _
  obtain ⟨p, q, hA, _, _, _, _⟩ := id hW
  have hA : DataW.TrodAll enc Try.prog W 0 (fun _ => true) true Try.f4.params.toList args.toList ds p := hA
  rw [Try.params4] at hA
  obtain ⟨v0, d0, rfl, rfl, h0⟩ := trodAll_one hA
  have hv0 : Value.okWide Try.prog W .any base 29 v0 := hval 0 _ _ (by rw [Try.params4]; rfl) rfl
  have hw0 : Wt Try.prog 29 d0 := fun n hn => by simpa using List.all_eq_true.1 hsz n (DataW.weights_mem_each (j := 0) (t := 29) (d := d0) (by rw [Try.params4]; rfl) rfl n hn)
  obtain ⟨S0, mv0, tc0, iv0, ic0, D0, hg0, hr0, ho0, hf0⟩ := arg_doc (Begun.start W) hv0 h0 hw0
  have hcalls := Runs.callsL libFr (libOk _) sound rfl hg0.begun (law S0.s mv0 tc0 iv0 ic0 D0 ho0 hf0) (args' := #[v0]) (VRL.cons hr0 VRL.nil)
  refine hcalls.mono fun e W' ⟨he, hb⟩ => ?_
  subst he
  exact law_post laid read rfl Try.underlying4 rfl (fun L hL => by match L, hL with | [a0], _ => rfl) hW hb
theorem over : Rows.docNumbersRow.holds Try.pinned (OpenSpec.ofChange Rows.docNumbersSpec) :=
  OpenClaim.holds_of_wide 4 Try.f4 rfl rfl rfl rfl rfl rfl rfl ⟨rfl, rfl, rfl, rfl, rfl⟩ rfl rfl rfl rfl rfl (by kernel_rfl) Try.func4 (by kernel_rfl)
    (of_decide_eq_true (by kernel_rfl)) (by unfold Func.isWrapper; first | (rw [if_pos (by decide +kernel)]; kernel_rfl) | (rw [if_neg (by decide +kernel)]; exact ⟨rfl, rfl⟩))
    (fun os started H enc _ => lifted os started H enc)
theorem proved : Rows.DocNumbersSaid := over
#print axioms proved
end Go.Proofs.Ythlbahnfimigcaa.docNumbers
