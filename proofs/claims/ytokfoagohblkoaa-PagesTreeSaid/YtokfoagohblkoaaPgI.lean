import Derived.Test.YtokfoagohblkoaaPgH
import Derived.Test.YtokfoagohblkoaaPgC
set_option linter.unusedSimpArgs false
set_option linter.unusedVariables false
set_option maxRecDepth 100000
namespace Go.Cl
def pwC (D : Dc) (mv : Value) (tc : List Value) (iv : Value) (m : Nat) (lv : Value) : List Value := docC D mv tc iv ++ [.map (some m), lv]
theorem tmod360 (x : Int) : IntKind.i64.wrap (x.tmod 360 + 360) = x.tmod 360 + 360 := by
  have h1 := Int.tmod_lt_of_pos x (show (0 : Int) < 360 by decide)
  have h2 := Int.lt_tmod_of_pos x (show (0 : Int) < 360 by decide)
  exact wrapI (by omega)
def lfC (m c : List Int) (r : Int) (rc : List Value) : List Value := i64V m ++ (i64V c ++ (.int .i64 r :: rc))
def Z4 : List Int := [0, 0, 0, 0]
theorem four {α : Type} {l : List α} (h : l.length = 4) : ∃ a b c d, l = [a, b, c, d] := by
  match l, h with
  | [a, b, c, d], _ => exact ⟨a, b, c, d, rfl⟩
theorem lfC_len {m c : List Int} {r : Int} {rc : List Value} (hm : m.length = 4) (hc : c.length = 4) (hr : rc.length = 5) : (lfC m c r rc).length = 14 := by simp [lfC, i64V, hm, hc, hr]
section
variable {m c m' : List Int} {r r' : Int} {rc rc' : List Value}
theorem lf_over0 (hm : m.length = 4) (hm' : m'.length = 4) : over (lfC m c r rc) 0 (i64V m') = lfC m' c r rc := by
  obtain ⟨a, b, d, e, rfl⟩ := four hm
  obtain ⟨a', b', d', e', rfl⟩ := four hm'
  rfl
theorem lf_over1 (hm : m.length = 4) (hc : c.length = 4) (hm' : m'.length = 4) : over (lfC m c r rc) 4 (i64V m') = lfC m m' r rc := by
  obtain ⟨a, b, d, e, rfl⟩ := four hm
  obtain ⟨a1, b1, d1, e1, rfl⟩ := four hc
  obtain ⟨a', b', d', e', rfl⟩ := four hm'
  rfl
theorem lf_over2 (hm : m.length = 4) (hc : c.length = 4) : (lfC m c r rc).set 8 (.int .i64 r') = lfC m c r' rc := by
  obtain ⟨a, b, d, e, rfl⟩ := four hm
  obtain ⟨a1, b1, d1, e1, rfl⟩ := four hc
  rfl
theorem lf_over3 (hm : m.length = 4) (hc : c.length = 4) (h1 : rc.length = 5) (h2 : rc'.length = 5) : over (lfC m c r rc) 9 rc' = lfC m c r rc' := by
  obtain ⟨a, b, d, e, rfl⟩ := four hm
  obtain ⟨a1, b1, d1, e1, rfl⟩ := four hc
  obtain ⟨_, _, _, _, _, rfl⟩ := five h1
  obtain ⟨_, _, _, _, _, rfl⟩ := five h2
  rfl
theorem lf_media (hm : m.length = 4) : ((lfC m c r rc).drop 0).take 4 = i64V m := by
  obtain ⟨a, b, d, e, rfl⟩ := four hm
  rfl
theorem lf_res (hm : m.length = 4) (hc : c.length = 4) (h1 : rc.length = 5) : (lfC m c r rc).getD 9 undef = rc.getD 0 undef := by
  obtain ⟨a, b, d, e, rfl⟩ := four hm
  obtain ⟨a1, b1, d1, e1, rfl⟩ := four hc
  rfl
end
theorem lfC_ok {m c : List Int} {r : Int} {rc : List Value} (h : rc.all okCell = true) : (lfC m c r rc).all okCell = true := by
  simp only [lfC, List.all_append, List.all_cons, i64V_ok, h]; rfl
theorem lfC_self {m c : List Int} {r : Int} {rc : List Value} (h : valEq (.agg rc.toArray) (.agg rc.toArray) = true) : valEq (.agg (lfC m c r rc).toArray) (.agg (lfC m c r rc).toArray) = true := by
  show valEqL (lfC m c r rc) (lfC m c r rc) = true
  have ht : valEqL rc rc = true := h
  refine valEqL_self (fun v hv => ?_)
  simp only [lfC, i64V, List.mem_cons, List.mem_append, List.mem_map] at hv
  rcases hv with ⟨x, _, rfl⟩ | ⟨x, _, rfl⟩ | rfl | hv
  · simp [valEq1]
  · simp [valEq1]
  · simp [valEq1]
  · exact valEqL_all ht v hv
theorem box_len (o : Option (List Int)) (h : ∀ l, o = some l → l.length = 4) : (o.getD Z4).length = 4 := by
  cases o with
  | none => rfl
  | some l => exact h l rfl
theorem boxD_len {D : List (Int × O)} {o : O} : ((boxD D o).getD Z4).length = 4 := by
  refine box_len _ (fun l h => ?_)
  unfold boxD at h
  split at h
  · injection h with h; rw [← h]; rfl
  · cases h
theorem boxV_cells {o : Option (List Int)} : (boxV o).cells.toList = i64V (o.getD Z4) := by
  unfold boxV Z4; rw [cells_agg]
def lfM (D : List (Int × O)) (mine : O) : List Int := (boxD D (getO mine kMed)).getD Z4
def lfK (D : List (Int × O)) (mine : O) : List Int := if (getO mine kCrop).kind = 0 then lfM D mine else (boxD D (getO mine kCrop)).getD Z4
def lfKo (D : List (Int × O)) (mine : O) : Bool := if (getO mine kCrop).kind = 0 then true else (boxD D (getO mine kCrop)).isSome
def lfT (D : List (Int × O)) (mine : O) : Int := (turnD D (getO mine kRot)).1
def lfR (D : List (Int × O)) (mine : O) : O := resD D (getO mine kRes)
def lfOk (D : List (Int × O)) (mine : O) : Bool := (boxD D (getO mine kMed)).isSome && (lfKo D mine && ((turnD D (getO mine kRot)).2 && (decide ((getO mine kRes).kind = 0) || decide ((lfR D mine).kind = 7))))
theorem lfK_len {D : List (Int × O)} {mine : O} : (lfK D mine).length = 4 := by
  unfold lfK
  split
  · exact boxD_len
  · exact boxD_len
theorem leafD_eq (D : List (Int × O)) (n : Int) (o mine : O) : leafD D n o mine = if lfOk D mine = true then some ⟨lfM D mine, lfK D mine, lfT D mine, lfR D mine, n, o⟩ else none := by
  unfold leafD lfOk lfKo lfK lfM lfT lfR
  cases h1 : boxD D (getO mine kMed) with
  | none => simp
  | some m =>
    by_cases h2 : (getO mine kCrop).kind = 0
    · simp [h2]
    · cases h3 : boxD D (getO mine kCrop) with
      | none => simp [h2]
      | some c => simp [h2]
end Go.Cl
namespace Go.Proofs.Ytokfoagohblkoaa
open Go.Cl Go.Lib
theorem szMq : sizeB Try.prog 76 = some 1 := by kernel_rfl
theorem agMq : isAggB Try.prog 76 = some false := by kernel_rfl
theorem szPs : sizeB Try.prog 23 = some 1 := by kernel_rfl
theorem agPs : isAggB Try.prog 23 = some false := by kernel_rfl
theorem szLf : sizeB Try.prog 55 = some 14 := by kernel_rfl
theorem agLf : isAggB Try.prog 55 = some true := by kernel_rfl
theorem zLf : zeroB Try.prog 55 = some (.agg (lfC Z4 Z4 0 noneC).toArray) := by kernel_rfl
theorem plLf : plainV (.agg (lfC Z4 Z4 0 noneC).toArray) = true := by kernel_rfl
theorem pw0 (i o c : Nat) : fieldAddrA Try.prog 78 (.pointer (some ⟨i, o, some c⟩)) 0 = some (.pointer (some ⟨i, o + 0, some c⟩)) := by
  unfold fieldAddrA; rw [Try.underlying78]; simp [szD]
theorem pw1 (i o c : Nat) : fieldAddrA Try.prog 78 (.pointer (some ⟨i, o, some c⟩)) 1 = some (.pointer (some ⟨i, o + 9, some c⟩)) := by
  unfold fieldAddrA; rw [Try.underlying78]; simp [szD, szMq]
theorem pw2 (i o c : Nat) : fieldAddrA Try.prog 78 (.pointer (some ⟨i, o, some c⟩)) 2 = some (.pointer (some ⟨i, o + 10, some c⟩)) := by
  unfold fieldAddrA; rw [Try.underlying78]; simp [szD, szMq, szPs]
theorem lf0 (i o c : Nat) : fieldAddrA Try.prog 55 (.pointer (some ⟨i, o, some c⟩)) 0 = some (.pointer (some ⟨i, o + 0, some c⟩)) := by
  unfold fieldAddrA; rw [Try.underlying55]; simp [szBx]
theorem lf1 (i o c : Nat) : fieldAddrA Try.prog 55 (.pointer (some ⟨i, o, some c⟩)) 1 = some (.pointer (some ⟨i, o + 4, some c⟩)) := by
  unfold fieldAddrA; rw [Try.underlying55]; simp [szBx]
theorem lf2 (i o c : Nat) : fieldAddrA Try.prog 55 (.pointer (some ⟨i, o, some c⟩)) 2 = some (.pointer (some ⟨i, o + 8, some c⟩)) := by
  unfold fieldAddrA; rw [Try.underlying55]; simp [szBx, szInt]
theorem lf3 (i o c : Nat) : fieldAddrA Try.prog 55 (.pointer (some ⟨i, o, some c⟩)) 3 = some (.pointer (some ⟨i, o + 9, some c⟩)) := by
  unfold fieldAddrA; rw [Try.underlying55]; simp [szBx, szInt, szO]
theorem pw_doc {t : ASt} {i : Nat} {D : Dc} {mv iv lv : Value} {tc : List Value} {m : Nat} (h : Thing t i (pwC D mv tc iv m lv)) (hl : tc.length = 5) : loadA Try.prog t 34 (.pointer (some ⟨i, 0, some 12⟩)) = some (.agg (docC D mv tc iv).toArray) := by
  have hc : (pwC D mv tc iv m lv).length = 11 := by simp [pwC, db_len hl]
  rw [Thing.loadMid agD szD h (by rw [hc]) (by rw [hc]; omega)]
  obtain ⟨a, b, c, d, e, rfl⟩ := five hl
  rfl
set_option maxHeartbeats 4000000 in
theorem turn_any (F G : Nat → Prop) (s : ASt) (w : Nat) (D : Dc) (mv : Value) (tc : List Value) (iv : Value) (ic : List Value) (m : Nat) (lv : Value) (hD : DocIs F s mv tc iv ic D) (hs : SmallD D) (hT : Thing s w (pwC D mv tc iv m lv)) (cs : List Value) (o : O) (ho : OIs G s cs o) (hso : Small o) :
    Runs Try.prog libN 66 [.pointer (some ⟨w, 0, some 12⟩), .agg cs.toArray] s fun v s' => v = .tuple #[.int .i64 (turnD D.items o).1, .bool (turnD D.items o).2] ∧ Stay s.next s s' := by
  have htl := hD.trailer.len
  have hol := ho.len
  have hd6 : noneC.length + 1 = 6 := rfl
  refine Runs.enter 30 Try.func66 rfl rfl rfl rfl ?_
  intro f hn hf
  have h0 : f.get 0 = .pointer (some ⟨w, 0, some 12⟩) := hf 0
  have h1 : f.get 1 = .agg cs.toArray := hf 1
  clear hf
  simp (config := { maxSteps := 1000000, implicitDefEqProofs := false }) (disch := omega) only [allW, allR, oneOf, evalAll, partsA, optA, Nat.reduceLT, Nat.reduceLeDiff, Nat.reduceEqDiff, Nat.reduceAdd, ↓reduceIte, hn, h0, h1]
  refine wstep_newPtr ?_
  intro s1 ht1 hst1 hnx1
  have ht1 : Thing s1 s.next cs := ht1
  have n1 := hst1.next
  have lk : loadA Try.prog s1 3 (.pointer (some ⟨s.next, 0, some 6⟩)) = some (.int .i64 o.kind) := by
    rw [ht1.load (P := Try.prog) agInt (off := 0) (c := 6) (by rw [hol]) (by omega), ho.kindC.1]
  by_cases c0 : o.kind = 0
  · simp (config := { maxSteps := 1000000, implicitDefEqProofs := false }) (disch := omega) only [allW, allR, wfn_ret, wfn_normal, oneOf, evalAll, partsA, optA, Nat.reduceLT, Nat.reduceLeDiff, Nat.reduceEqDiff, Nat.reduceAdd, ↓reduceIte, undef, hn, h0, h1, hol, of0, lk, c0, decide_true, Try.results66]
    unfold turnD
    rw [if_pos c0]
    exact ⟨rfl, hst1⟩
  simp (config := { maxSteps := 1000000, implicitDefEqProofs := false }) (disch := omega) only [allW, allR, oneOf, evalAll, partsA, optA, Nat.reduceLT, Nat.reduceLeDiff, Nat.reduceEqDiff, Nat.reduceAdd, ↓reduceIte, undef, hn, h0, h1, hol, of0, lk, eq_false c0, decide_false]
  obtain ⟨B, hB⟩ : ∃ B : Nat → Bool, B = fun j => decide (j < s1.next) := ⟨_, rfl⟩
  have hBl : ∀ j, B j = true → j < s1.next := by
    intro j h
    rw [hB] at h
    exact of_decide_eq_true h
  have hBo : ∀ j, j < s1.next → B j = true := fun j h => by rw [hB]; exact decide_eq_true h
  refine LB.Drawn.looseK B hBl 0 1 (by kernel_rfl) (by kernel_rfl) ?_
  have hsq := Stay.spare s1 1
  have hnq : (spare s1 1).next = s1.next + 1 := spare_next _ _
  have hT1 := hT.keeps hst1
  have ml1 : ∀ k, LA.lowV B (some (.pointer (some ⟨w, k, some 12⟩))) = true := fun k => LA.lowV_ptr (A := B) (i := w) (hBo _ hT1.lt)
  have ml2 : ∀ k, LA.lowV B (some (.pointer (some ⟨s.next, k, some 6⟩))) = true := fun k => LA.lowV_ptr (A := B) (i := s.next) (hBo _ ht1.lt)
  have hDt := hD.lows.keeps hst1
  have ho1 := ho.lows.keeps hst1
  simp (config := { maxSteps := 1000000, implicitDefEqProofs := false }) (disch := omega) only [allW, allR, allL, allB, Nat.sub_self, Nat.add_one_sub_one, Nat.reduceSub, oneOf, evalAll, partsA, optA, Nat.reduceLT, Nat.reduceLeDiff, Nat.reduceEqDiff, Nat.reduceAdd, ↓reduceIte, hn, h0, h1, pw0, pw_doc (hT1.keeps hsq) htl, Thing.loadO (ht1.keeps hsq) hol, ml1, ml2, hDt.self, ho1.self]
  refine (resolve_any (lib := libN) rfl rfl rfl rfl rfl rfl rfl _ (spare s1 1) D mv tc iv ic (hDt.keeps hsq) hs _ cs o (ho1.keeps hsq) hso).mono ?_
  rintro _ s2 ⟨c2, rfl, ho2, k2⟩
  have m2 := k2.next
  have hl2 := ho2.len
  refine ⟨fun h => h.elim, ?_⟩
  simp (config := { maxSteps := 1000000, implicitDefEqProofs := false }) (disch := omega) only [allW, allR, allL, allB, Nat.sub_self, Nat.add_one_sub_one, Nat.reduceSub, oneOf, evalAll, partsA, optA, Nat.reduceLT, Nat.reduceLeDiff, Nat.reduceEqDiff, Nat.reduceAdd, ↓reduceIte, hn, h0, h1, zO, plO]
  refine LB.smake_newPtr (by omega) ?_
  intro s3 ht3 nt3 et3
  simp (config := { maxSteps := 1000000, implicitDefEqProofs := false }) (disch := omega) only [allW, allR, allL, allB, Nat.sub_self, Nat.add_one_sub_one, Nat.reduceSub, oneOf, evalAll, partsA, optA, Nat.reduceLT, Nat.reduceLeDiff, Nat.reduceEqDiff, Nat.reduceAdd, ↓reduceIte, hn, h0, h1, hd6]
  refine LB.sstep_storeAll szO (by decide) ht3 rfl rfl (by simpa using hl2) ho2.ok (fun h => absurd rfl h) ?_
  intro s4 ht4 nt4 et4
  have ht4 : Thing s4 s1.next c2 := ht4
  have lk2 : loadA Try.prog s4 3 (.pointer (some ⟨s1.next, 0, some 6⟩)) = some (.int .i64 (resD D.items o).kind) := by
    rw [ht4.load (P := Try.prog) agInt (off := 0) (c := 6) (by rw [hl2]) (by omega), ho2.kindC.1]
  have ln2 : loadA Try.prog s4 2 (.pointer (some ⟨s1.next, 1, some 6⟩)) = some (.int .i64 (resD D.items o).num) := by
    rw [ht4.load (P := Try.prog) agI64 (off := 1) (c := 6) (by rw [hl2]) (by omega), ho2.kindC.2]
  obtain ⟨x, hx⟩ : ∃ x, x = resD D.items o := ⟨_, rfl⟩
  have e : turnD D.items o = ((x.num.tmod 360 + 360).tmod 360, decide (x.kind = 2 ∧ x.num.tmod 90 = 0)) := by unfold turnD; rw [if_neg c0, hx]
  rw [e]
  rw [← hx] at lk2 ln2
  have kk : Stay s.next s s4 := hst1.trans (((hsq.trans (k2.weaken (by omega))).trans ⟨by omega, fun j hj => by rw [et4 j (by omega), et3 j (by omega)]⟩).weaken (by omega))
  by_cases c2 : x.kind = 2
  · simp (config := { maxSteps := 1000000, implicitDefEqProofs := false }) (disch := omega) only [allW, allR, allL, allB, Nat.sub_self, Nat.add_one_sub_one, Nat.reduceSub, oneOf, evalAll, partsA, optA, Nat.reduceLT, Nat.reduceLeDiff, Nat.reduceEqDiff, Nat.reduceAdd, ↓reduceIte, allW, allR, wfn_ret, wfn_normal, oneOf, evalAll, partsA, optA, Nat.reduceLT, Nat.reduceLeDiff, Nat.reduceEqDiff, Nat.reduceAdd, ↓reduceIte, undef, hn, h0, h1, of0, of1, lk2, ln2, c2, bin_rem, tmod360, decide_true, true_and, Try.results66]
    exact kk
  · simp (config := { maxSteps := 1000000, implicitDefEqProofs := false }) (disch := omega) only [allW, allR, allL, allB, Nat.sub_self, Nat.add_one_sub_one, Nat.reduceSub, oneOf, evalAll, partsA, optA, Nat.reduceLT, Nat.reduceLeDiff, Nat.reduceEqDiff, Nat.reduceAdd, ↓reduceIte, allW, allR, wfn_ret, wfn_normal, oneOf, evalAll, partsA, optA, Nat.reduceLT, Nat.reduceLeDiff, Nat.reduceEqDiff, Nat.reduceAdd, ↓reduceIte, undef, hn, h0, h1, of0, of1, lk2, ln2, eq_false c2, bin_rem, tmod360, decide_false, false_and, Try.results66]
    exact kk
def LeafR (s : ASt) (D : List (Int × O)) (mine : O) (v : Value) (s' : ASt) : Prop := ∃ rc, v = .tuple #[.agg (lfC (lfM D mine) (lfK D mine) (lfT D mine) rc).toArray, .bool (lfOk D mine)] ∧ OIs (fun j => s.next ≤ j) s' rc (lfR D mine) ∧ Stay s.next s s'
theorem get_anyP (F : Nat → Prop) (s : ASt) (cs : List Value) (o : O) (ho : OIs F s cs o) (hsm : Small o) (k : List UInt8) : Runs Try.prog libN 25 [.agg cs.toArray, .string ⟨k.toArray⟩] s (NewO s (getO o k)) := get_any rfl rfl rfl rfl rfl F s cs o ho hsm k
theorem resolve_anyP (F : Nat → Prop) (s : ASt) (D : Dc) (mv : Value) (tc : List Value) (iv : Value) (ic : List Value) (hD : DocIs F s mv tc iv ic D) (hs : SmallD D) (G : Nat → Prop) (cs : List Value) (o : O) (ho : OIs G s cs o) (hso : Small o) : Runs Try.prog libN 24 [.agg (docC D mv tc iv).toArray, .agg cs.toArray] s (NewO s (resD D.items o)) := resolve_any (lib := libN) rfl rfl rfl rfl rfl rfl rfl F s D mv tc iv ic hD hs G cs o ho hso
theorem valEq_box (o : Option (List Int)) (h : (o.getD Z4).length = 4) (b : Bool) : valEq (.tuple #[boxV o, .bool b]) (.tuple #[boxV o, .bool b]) = true := by
  obtain ⟨x, y, z, w, e⟩ := four h
  have : boxV o = .agg (i64V (o.getD Z4)).toArray := rfl
  rw [this, e]
  simp [i64V, valEq, valEqM, valEq2, valEq1, valEqL]
theorem valEq_boxV (o : Option (List Int)) (h : (o.getD Z4).length = 4) : valEq (boxV o) (boxV o) = true := by
  obtain ⟨x, y, z, w, e⟩ := four h
  have : boxV o = .agg (i64V (o.getD Z4)).toArray := rfl
  rw [this, e]
  simp [i64V, valEq, valEqM, valEq2, valEq1, valEqL]
set_option maxHeartbeats 8000000 in
theorem leaf_any (F G : Nat → Prop) (s : ASt) (w : Nat) (D : Dc) (mv : Value) (tc : List Value) (iv : Value) (ic : List Value) (m : Nat) (lv : Value) (hD : DocIs F s mv tc iv ic D) (hs : SmallD D) (hT : Thing s w (pwC D mv tc iv m lv)) (cs : List Value) (o : O) (ho : OIs G s cs o) (hso : Small o) :
    Runs Try.prog libN 63 [.pointer (some ⟨w, 0, some 12⟩), .agg cs.toArray] s (LeafR s D.items o) := by
  have htl := hD.trailer.len
  have hol := ho.len
  have hd6 : noneC.length + 1 = 6 := rfl
  have hd15 : (lfC Z4 Z4 0 noneC).length + 1 = 15 := rfl
  refine Runs.enter 77 Try.func63 rfl rfl rfl rfl ?_
  intro f hn hf
  have h0 : f.get 0 = .pointer (some ⟨w, 0, some 12⟩) := hf 0
  have h1 : f.get 1 = .agg cs.toArray := hf 1
  clear hf
  simp (config := { maxSteps := 1000000, implicitDefEqProofs := false }) (disch := omega) only [allW, allR, oneOf, evalAll, partsA, optA, Nat.reduceLT, Nat.reduceLeDiff, Nat.reduceEqDiff, Nat.reduceAdd, ↓reduceIte, hn, h0, h1]
  refine wstep_newPtr ?_
  intro s1 ht1 hst1 hnx1
  have ht1 : Thing s1 s.next cs := ht1
  simp (config := { maxSteps := 1000000, implicitDefEqProofs := false }) (disch := omega) only [allW, allR, oneOf, evalAll, partsA, optA, Nat.reduceLT, Nat.reduceLeDiff, Nat.reduceEqDiff, Nat.reduceAdd, ↓reduceIte, hn, h0, h1, hol, zLf, plLf]
  refine wstep_newPtr ?_
  intro s2 ht2 hst2 hnx2
  simp (config := { maxSteps := 1000000, implicitDefEqProofs := false }) (disch := omega) only [allW, allR, oneOf, evalAll, partsA, optA, Nat.reduceLT, Nat.reduceLeDiff, Nat.reduceEqDiff, Nat.reduceAdd, ↓reduceIte, hn, h0, h1, hd15, zLf, plLf]
  refine wstep_newPtr ?_
  intro s3 ht3 hst3 hnx3
  have n1 := hst1.next
  have n2 := hst2.next
  have n3 := hst3.next
  have hs3 : Stay s.next s s3 := (hst1.trans (hst2.weaken n1)).trans (hst3.weaken (by omega))
  have ht13 := ht1.keeps (hst2.trans (hst3.weaken n2))
  have ht23 := ht2.keeps hst3
  have ht2 : Thing s3 s1.next (lfC Z4 Z4 0 noneC) := ht23
  have ht3 : Thing s3 s2.next (lfC Z4 Z4 0 noneC) := ht3
  have hT3 := hT.keeps hs3
  have hD3 := hD.lows.keeps hs3
  have ho3 := ho.lows.keeps hs3
  have hwlt := hT.lt
  simp (config := { maxSteps := 1000000, implicitDefEqProofs := false }) (disch := omega) only [allW, allR, oneOf, evalAll, partsA, optA, Nat.reduceLT, Nat.reduceLeDiff, Nat.reduceEqDiff, Nat.reduceAdd, ↓reduceIte, hn, h0, h1, hd15]
  obtain ⟨B, hB⟩ : ∃ B : Nat → Bool, B = fun j => decide (j < s3.next) := ⟨_, rfl⟩
  have hBl : ∀ j, B j = true → j < s3.next := by
    intro j h
    rw [hB] at h
    exact of_decide_eq_true h
  have hBo : ∀ j, j < s3.next → B j = true := fun j h => by rw [hB]; exact decide_eq_true h
  refine LB.Drawn.looseK B hBl 1 0 (by kernel_rfl) (by kernel_rfl) ?_
  have hsq := Stay.spare s3 0
  have hnq : (spare s3 0).next = s3.next + 0 := spare_next _ _
  have ml1 : ∀ k, LA.lowV B (some (.pointer (some ⟨w, k, some 12⟩))) = true := fun k => LA.lowV_ptr (A := B) (i := w) (hBo _ hT3.lt)
  have ml2 : ∀ k, LA.lowV B (some (.pointer (some ⟨s.next, k, some 6⟩))) = true := fun k => LA.lowV_ptr (A := B) (i := s.next) (hBo _ ht13.lt)
  simp (config := { maxSteps := 1000000, implicitDefEqProofs := false }) (disch := omega) only [allW, allR, allL, allB, Nat.sub_self, Nat.add_one_sub_one, Nat.reduceSub, oneOf, evalAll, partsA, optA, Nat.reduceLT, Nat.reduceLeDiff, Nat.reduceEqDiff, Nat.reduceAdd, ↓reduceIte, hn, h0, h1, pw0, pw_doc (hT3.keeps hsq) htl, Thing.loadO (ht13.keeps hsq) hol, ml1, ml2, hD3.self, ho3.self]
  refine (get_anyP _ (spare s3 0) cs o (ho3.keeps hsq) hso kMed).mono ?_
  rintro _ s4 ⟨c4, rfl, ho4, k4⟩
  have m4 := k4.next
  refine ⟨fun _ => LA.Stay.toA hBl (k4.weaken (by omega)), ?_⟩
  have k34 : Stay s3.next s3 s4 := hsq.trans (k4.weaken (by omega))
  try simp (config := { maxSteps := 1000000, implicitDefEqProofs := false }) (disch := omega) only [allW, allR, allL, allB, Nat.sub_self, Nat.add_one_sub_one, Nat.reduceSub, oneOf, evalAll, partsA, optA, Nat.reduceLT, Nat.reduceLeDiff, Nat.reduceEqDiff, Nat.reduceAdd, ↓reduceIte, hn, h0, h1, ho4.self]
  refine (pbox_any (fun j => (F j ∧ j < s.next) ∨ s3.next ≤ j) s4 D mv tc iv ic ((hD3.keeps k34).mono (fun j h => .inl h)) hs c4 _ (ho4.mono (fun j (h : _ ≤ j) => .inr (by omega))) (getO_small o kMed hso)).mono ?_
  rintro _ s5 ⟨rfl, k5⟩
  have m5 := k5.next
  refine ⟨fun h => h.elim, ?_⟩
  obtain ⟨b1, hb1⟩ : ∃ b1, b1 = boxD D.items (getO o kMed) := ⟨_, rfl⟩
  have hM : lfM D.items o = b1.getD Z4 := by rw [hb1]; rfl
  have hMl : (b1.getD Z4).length = 4 := by rw [hb1]; exact boxD_len
  rw [← hb1]
  have k35 : Stay s3.next s3 s5 := k34.trans (k5.weaken (by omega))
  simp (config := { maxSteps := 1000000, implicitDefEqProofs := false }) (disch := omega) only [allW, allR, allL, allB, Nat.sub_self, Nat.add_one_sub_one, Nat.reduceSub, oneOf, evalAll, partsA, optA, Nat.reduceLT, Nat.reduceLeDiff, Nat.reduceEqDiff, Nat.reduceAdd, ↓reduceIte, hn, h0, h1, ext0, ext1, valEq_box _ hMl, valEq_boxV _ hMl, valEq_bool, lf0]
  refine LB.sstep_storeN szBx (by decide) (ht3.keeps k35) (off := 0) (c := 15) rfl boxV_cells (by simp [i64V, hMl]) (by decide) (i64V_ok _) (fun h => absurd rfl h) ?_
  intro s6 ht6 nt6 et6
  have ht6 : Thing s6 s2.next (lfC (b1.getD Z4) Z4 0 noneC) := by rw [← lf_over0 (m := Z4) rfl hMl]; exact ht6
  have lm6 : loadA Try.prog s6 37 (.pointer (some ⟨s2.next, 0, some 15⟩)) = some (.agg (i64V (b1.getD Z4)).toArray) := by
    rw [ht6.loadMid (P := Try.prog) agBx szBx (off := 0) (c := 15) (by rw [lfC_len hMl rfl rfl]) (by rw [lfC_len hMl rfl rfl]; decide), lf_media hMl]
  simp (config := { maxSteps := 1000000, implicitDefEqProofs := false }) (disch := omega) only [allW, allR, allL, allB, Nat.sub_self, Nat.add_one_sub_one, Nat.reduceSub, oneOf, evalAll, partsA, optA, Nat.reduceLT, Nat.reduceLeDiff, Nat.reduceEqDiff, Nat.reduceAdd, ↓reduceIte, hn, h0, h1, lf0, lf1, lm6]
  refine wstep_storeN szBx (by decide) ht6 (off := 4) (c := 15) (by rw [lfC_len hMl rfl rfl]) (vs := i64V (b1.getD Z4)) (by rw [cells_agg]) (by simp [i64V, hMl]) (by rw [lfC_len hMl rfl rfl]; decide) (i64V_ok _) ?_
  intro s7 ht7 nt7 et7
  rw [lf_over1 hMl rfl hMl] at ht7
  have k37 : Stay s2.next s3 s7 := (k35.weaken n3).trans ⟨by omega, fun j hj => by rw [et7 j (by omega), et6 j (by omega)]⟩
  have ks7 : Stay s.next s s7 := hs3.trans (k37.weaken (by omega))
  have n37 := k37.next
  have th7 : Thing s7 s.next cs := ((ht13.keeps k35).ofPut nt6 et6 (by omega)).ofPut nt7 et7 (by omega)
  have tf7 : Thing s7 s1.next (lfC Z4 Z4 0 noneC) := ((ht2.keeps k35).ofPut nt6 et6 (by omega)).ofPut nt7 et7 (by omega)
  simp (config := { maxSteps := 1000000, implicitDefEqProofs := false }) (disch := omega) only [allW, allR, oneOf, evalAll, partsA, optA, Nat.reduceLT, Nat.reduceLeDiff, Nat.reduceEqDiff, Nat.reduceAdd, ↓reduceIte, hn, h0, h1, Thing.loadO th7 hol]
  refine (get_anyP _ s7 cs o (ho.lows.keeps ks7) hso kCrop).mono ?_
  rintro _ s8 ⟨c8, rfl, ho8, k8⟩
  have m8 := k8.next
  have hl8 := ho8.len
  simp (config := { maxSteps := 1000000, implicitDefEqProofs := false }) (disch := omega) only [allW, allR, oneOf, evalAll, partsA, optA, Nat.reduceLT, Nat.reduceLeDiff, Nat.reduceEqDiff, Nat.reduceAdd, ↓reduceIte, hn, h0, h1, zO, plO]
  refine wstep_newPtr ?_
  intro s9 ht9 hst9 hnx9
  simp (config := { maxSteps := 1000000, implicitDefEqProofs := false }) (disch := omega) only [allW, allR, oneOf, evalAll, partsA, optA, Nat.reduceLT, Nat.reduceLeDiff, Nat.reduceEqDiff, Nat.reduceAdd, ↓reduceIte, hn, h0, h1, hd6]
  refine wstep_storeAll szO (by decide) ht9 rfl rfl hl8 ho8.ok ?_
  intro sa hta nta eta
  have hta : Thing sa s8.next c8 := hta
  have k7a : Stay s7.next s7 sa := (k8.trans (hst9.weaken m8)).trans ⟨by omega, fun j hj => eta j (by omega)⟩
  have na := k7a.next
  have hoa : OIs (fun j => s7.next ≤ j ∧ j < s8.next) sa c8 (getO o kCrop) := (ho8.lows.keeps hst9).ofPut nta eta (by omega)
  have lk : loadA Try.prog sa 3 (.pointer (some ⟨s8.next, 0, some 6⟩)) = some (.int .i64 (getO o kCrop).kind) := by
    rw [hta.load (P := Try.prog) agInt (off := 0) (c := 6) (by rw [hl8]) (by omega), hoa.kindC.1]
  have ksa : Stay s.next s sa := ks7.trans (k7a.weaken (by have := ks7.next; omega))
  have tLa : Thing sa s2.next (lfC (b1.getD Z4) (b1.getD Z4) 0 noneC) := ht7.keeps k7a
  have tha := th7.keeps k7a
  have tfa := tf7.keeps k7a
  simp (config := { maxSteps := 1000000, implicitDefEqProofs := false }) (disch := omega) only [allW, allR, oneOf, evalAll, partsA, optA, Nat.reduceLT, Nat.reduceLeDiff, Nat.reduceEqDiff, Nat.reduceAdd, ↓reduceIte, undef, hn, h0, h1, of0, lk]
  refine wif_cutJ (fun f t => f.n = 77 ∧ f.get 0 = .pointer (some ⟨w, 0, some 12⟩) ∧ f.get 3 = .pointer (some ⟨s.next, 0, some 6⟩) ∧ f.get 4 = .pointer (some ⟨s1.next, 0, some 15⟩) ∧ f.get 6 = .pointer (some ⟨s2.next, 0, some 15⟩) ∧ f.get 7 = .bool b1.isSome ∧ f.get 8 = .bool (lfKo D.items o) ∧ Thing t s2.next (lfC (lfM D.items o) (lfK D.items o) 0 noneC) ∧ Thing t s.next cs ∧ Thing t s1.next (lfC Z4 Z4 0 noneC) ∧ Stay s.next s t ∧ s3.next ≤ t.next) ?_ ?_
  · intro Q hQ
    by_cases c0 : (getO o kCrop).kind = 0
    · simp (config := { maxSteps := 1000000, implicitDefEqProofs := false }) (disch := omega) only [allW, allR, oneOf, evalAll, partsA, optA, Nat.reduceLT, Nat.reduceLeDiff, Nat.reduceEqDiff, Nat.reduceAdd, ↓reduceIte, hn, h0, h1, c0, not_true, decide_false, decide_true]
      exact hQ _ _ ⟨by simp only [get_put, n_put, ↓reduceIte, Nat.reduceEqDiff, hn], by simp only [get_put, n_put, ↓reduceIte, Nat.reduceEqDiff, h0], by simp only [get_put, n_put, ↓reduceIte, Nat.reduceEqDiff], by simp only [get_put, n_put, ↓reduceIte, Nat.reduceEqDiff], by simp only [get_put, n_put, ↓reduceIte, Nat.reduceEqDiff], by simp only [get_put, n_put, ↓reduceIte, Nat.reduceEqDiff], by simp only [get_put, n_put, ↓reduceIte, Nat.reduceEqDiff]; unfold lfKo; rw [if_pos c0], by unfold lfK; rw [if_pos c0, hM]; exact tLa, tha, tfa, ksa, by omega⟩
    simp (config := { maxSteps := 1000000, implicitDefEqProofs := false }) (disch := omega) only [allW, allR, oneOf, evalAll, partsA, optA, Nat.reduceLT, Nat.reduceLeDiff, Nat.reduceEqDiff, Nat.reduceAdd, ↓reduceIte, hn, h0, h1, eq_true c0, not_false_iff, decide_true]
    obtain ⟨C, hC⟩ : ∃ B : Nat → Bool, B = fun j => decide (j < sa.next) := ⟨_, rfl⟩
    have hCl : ∀ j, C j = true → j < sa.next := by
      intro j h
      rw [hC] at h
      exact of_decide_eq_true h
    have hCo : ∀ j, j < sa.next → C j = true := fun j h => by rw [hC]; exact decide_eq_true h
    refine LB.Drawn.looseK C hCl 0 0 (by kernel_rfl) (by kernel_rfl) ?_
    have hsr := Stay.spare sa 0
    have hnr : (spare sa 0).next = sa.next + 0 := spare_next _ _
    have hTa := hT.keeps ksa
    have hDa := hD.lows.keeps ksa
    have ml3 : ∀ k, LA.lowV C (some (.pointer (some ⟨w, k, some 12⟩))) = true := fun k => LA.lowV_ptr (A := C) (i := w) (hCo _ hTa.lt)
    have ml4 : ∀ k, LA.lowV C (some (.pointer (some ⟨s8.next, k, some 6⟩))) = true := fun k => LA.lowV_ptr (A := C) (i := s8.next) (hCo _ hta.lt)
    simp (config := { maxSteps := 1000000, implicitDefEqProofs := false }) (disch := omega) only [allW, allR, allL, allB, Nat.sub_self, Nat.add_one_sub_one, Nat.reduceSub, oneOf, evalAll, partsA, optA, Nat.reduceLT, Nat.reduceLeDiff, Nat.reduceEqDiff, Nat.reduceAdd, ↓reduceIte, hn, h0, h1, pw0, pw_doc (hTa.keeps hsr) htl, Thing.loadO (hta.keeps hsr) hl8, ml3, ml4, hDa.self, hoa.self]
    refine (pbox_any (fun j => (F j ∧ j < s.next) ∨ s7.next ≤ j) (spare sa 0) D mv tc iv ic ((hDa.keeps hsr).mono (fun j h => .inl h)) hs c8 _ ((hoa.keeps hsr).mono (fun j h => .inr h.1)) (getO_small o kCrop hso)).mono ?_
    rintro _ sb ⟨rfl, kb⟩
    have mb := kb.next
    refine ⟨fun h => h.elim, ?_⟩
    obtain ⟨b2, hb2⟩ : ∃ b2, b2 = boxD D.items (getO o kCrop) := ⟨_, rfl⟩
    have hKl : (b2.getD Z4).length = 4 := by rw [hb2]; exact boxD_len
    have eK : lfK D.items o = b2.getD Z4 := by unfold lfK; rw [if_neg c0, ← hb2]
    have eKo : lfKo D.items o = b2.isSome := by unfold lfKo; rw [if_neg c0, ← hb2]
    rw [← hb2]
    have kab : Stay sa.next sa sb := hsr.trans (kb.weaken (by omega))
    simp (config := { maxSteps := 1000000, implicitDefEqProofs := false }) (disch := omega) only [allW, allR, allL, allB, Nat.sub_self, Nat.add_one_sub_one, Nat.reduceSub, oneOf, evalAll, partsA, optA, Nat.reduceLT, Nat.reduceLeDiff, Nat.reduceEqDiff, Nat.reduceAdd, ↓reduceIte, hn, h0, h1, ext0, ext1, valEq_box _ hKl, valEq_boxV _ hKl, valEq_bool, lf1]
    refine LB.sstep_storeN szBx (by decide) (tLa.keeps kab) (off := 4) (c := 15) (by rw [lfC_len hMl hMl rfl]) boxV_cells (by simp [i64V, hKl]) (by rw [lfC_len hMl hMl rfl]; decide) (i64V_ok _) (fun h => absurd rfl h) ?_
    intro sd htd ntd etd
    rw [lf_over1 hMl hMl hKl, ← hM, ← eK] at htd
    simp (config := { maxSteps := 1000000, implicitDefEqProofs := false }) (disch := omega) only [allW, allR, allL, allB, Nat.sub_self, Nat.add_one_sub_one, Nat.reduceSub, oneOf, evalAll, partsA, optA, Nat.reduceLT, Nat.reduceLeDiff, Nat.reduceEqDiff, Nat.reduceAdd, ↓reduceIte, allW, allR, oneOf, evalAll, partsA, optA, Nat.reduceLT, Nat.reduceLeDiff, Nat.reduceEqDiff, Nat.reduceAdd, ↓reduceIte, hn, h0, h1]
    exact hQ _ _ ⟨by simp only [get_put, n_put, ↓reduceIte, Nat.reduceEqDiff, hn], by simp only [get_put, n_put, ↓reduceIte, Nat.reduceEqDiff, h0], by simp only [get_put, n_put, ↓reduceIte, Nat.reduceEqDiff], by simp only [get_put, n_put, ↓reduceIte, Nat.reduceEqDiff], by simp only [get_put, n_put, ↓reduceIte, Nat.reduceEqDiff], by simp only [get_put, n_put, ↓reduceIte, Nat.reduceEqDiff], by simp only [get_put, n_put, ↓reduceIte, Nat.reduceEqDiff]; rw [eKo], htd, (tha.keeps kab).ofPut ntd etd (by omega), (tfa.keeps kab).ofPut ntd etd (by omega), ksa.trans ((kab.weaken (by omega)).trans ⟨by omega, fun j hj => etd j (by omega)⟩), by omega⟩
  clear hn h0 h1 f
  rintro f t ⟨hn, h0, h3, h4, h6, h7, h8, tL, th, tf, kst, nst⟩
  have hMl2 : (lfM D.items o).length = 4 := boxD_len
  have hKl2 : (lfK D.items o).length = 4 := lfK_len
  have hok : OIs (fun j => G j ∧ j < s.next) t cs o := ho.lows.keeps kst
  have hTt := hT.keeps kst
  have hDt := hD.lows.keeps kst
  have nt := kst.next
  simp (config := { maxSteps := 1000000, implicitDefEqProofs := false }) (disch := omega) only [allW, allR, oneOf, evalAll, partsA, optA, Nat.reduceLT, Nat.reduceLeDiff, Nat.reduceEqDiff, Nat.reduceAdd, ↓reduceIte, hn, h0, h3, h4, h6, h7, h8, Thing.loadO th hol]
  refine (get_anyP _ t cs o hok hso kRot).mono ?_
  rintro _ t1 ⟨c1, rfl, ho1, k1⟩
  have m1 := k1.next
  simp (config := { maxSteps := 1000000, implicitDefEqProofs := false }) (disch := omega) only [allW, allR, oneOf, evalAll, partsA, optA, Nat.reduceLT, Nat.reduceLeDiff, Nat.reduceEqDiff, Nat.reduceAdd, ↓reduceIte, hn, h0, h3, h4, h6, h7, h8]
  refine (turn_any _ _ t1 w D mv tc iv ic m lv (hDt.keeps k1) hs (hTt.keeps k1) c1 _ ho1 (getO_small o kRot hso)).mono ?_
  rintro _ t2 ⟨rfl, k2⟩
  have m2 := k2.next
  have k02 : Stay t.next t t2 := k1.trans (k2.weaken m1)
  simp (config := { maxSteps := 1000000, implicitDefEqProofs := false }) (disch := omega) only [allW, allR, oneOf, evalAll, partsA, optA, Nat.reduceLT, Nat.reduceLeDiff, Nat.reduceEqDiff, Nat.reduceAdd, ↓reduceIte, hn, h0, h3, h4, h6, h7, h8, ext0, ext1, lf2]
  refine wstep_store szInt (tL.keeps k02) (off := 8) (c := 15) (by rw [lfC_len hMl2 hKl2 rfl]) (by rw [lfC_len hMl2 hKl2 rfl]; decide) (v := .int .i64 (turnD D.items (getO o kRot)).1) rfl ?_
  intro t3 ht3' nt3 et3
  rw [lf_over2 hMl2 hKl2] at ht3'
  have ht3' : Thing t3 s2.next (lfC (lfM D.items o) (lfK D.items o) (lfT D.items o) noneC) := ht3'
  have k03 : Stay s.next t t3 := (k02.weaken (by omega)).trans ⟨by omega, fun j hj => et3 j (by omega)⟩
  have th3 : Thing t3 s.next cs := (th.keeps k02).ofPut nt3 et3 (by omega)
  have tf3 : Thing t3 s1.next (lfC Z4 Z4 0 noneC) := (tf.keeps k02).ofPut nt3 et3 (by omega)
  have ks3 : Stay s.next s t3 := kst.trans k03
  simp (config := { maxSteps := 1000000, implicitDefEqProofs := false }) (disch := omega) only [allW, allR, oneOf, evalAll, partsA, optA, Nat.reduceLT, Nat.reduceLeDiff, Nat.reduceEqDiff, Nat.reduceAdd, ↓reduceIte, hn, h0, h3, h4, h6, h7, h8, Thing.loadO th3 hol]
  refine (get_anyP _ t3 cs o (ho.lows.keeps ks3) hso kRes).mono ?_
  rintro _ t4 ⟨c4', rfl, ho4', k4'⟩
  have m4' := k4'.next
  have hl4' := ho4'.len
  simp (config := { maxSteps := 1000000, implicitDefEqProofs := false }) (disch := omega) only [allW, allR, oneOf, evalAll, partsA, optA, Nat.reduceLT, Nat.reduceLeDiff, Nat.reduceEqDiff, Nat.reduceAdd, ↓reduceIte, hn, h0, h3, h4, h6, h7, h8, zO, plO]
  refine wstep_newPtr ?_
  intro t5 ht5' hst5' hnx5'
  simp (config := { maxSteps := 1000000, implicitDefEqProofs := false }) (disch := omega) only [allW, allR, oneOf, evalAll, partsA, optA, Nat.reduceLT, Nat.reduceLeDiff, Nat.reduceEqDiff, Nat.reduceAdd, ↓reduceIte, hn, h0, h3, h4, h6, h7, h8, hd6]
  refine wstep_storeAll szO (by decide) ht5' rfl rfl hl4' ho4'.ok ?_
  intro t6 ht6' nt6' et6'
  have ht6' : Thing t6 t4.next c4' := ht6'
  have k36 : Stay t3.next t3 t6 := (k4'.trans (hst5'.weaken m4')).trans ⟨by omega, fun j hj => et6' j (by omega)⟩
  have n36 := k36.next
  have ho6 : OIs (fun j => t3.next ≤ j ∧ j < t4.next) t6 c4' (getO o kRes) := (ho4'.lows.keeps hst5').ofPut nt6' et6' (by omega)
  have ks6 : Stay s.next s t6 := ks3.trans (k36.weaken (by have := ks3.next; omega))
  have tL6 := ht3'.keeps k36
  have tf6 := tf3.keeps k36
  have hT6 := hT.keeps ks6
  have hD6 := hD.lows.keeps ks6
  simp (config := { maxSteps := 1000000, implicitDefEqProofs := false }) (disch := omega) only [allW, allR, oneOf, evalAll, partsA, optA, Nat.reduceLT, Nat.reduceLeDiff, Nat.reduceEqDiff, Nat.reduceAdd, ↓reduceIte, hn, h0, h3, h4, h6, h7, h8]
  obtain ⟨C, hC⟩ : ∃ B : Nat → Bool, B = fun j => decide (j < t6.next) := ⟨_, rfl⟩
  have hCl : ∀ j, C j = true → j < t6.next := by
    intro j h
    rw [hC] at h
    exact of_decide_eq_true h
  have hCo : ∀ j, j < t6.next → C j = true := fun j h => by rw [hC]; exact decide_eq_true h
  refine LB.Drawn.looseK C hCl 0 0 (by kernel_rfl) (by kernel_rfl) ?_
  have hsr := Stay.spare t6 0
  have hnr : (spare t6 0).next = t6.next + 0 := spare_next _ _
  have ml3 : ∀ k, LA.lowV C (some (.pointer (some ⟨w, k, some 12⟩))) = true := fun k => LA.lowV_ptr (A := C) (i := w) (hCo _ hT6.lt)
  have ml4 : ∀ k, LA.lowV C (some (.pointer (some ⟨t4.next, k, some 6⟩))) = true := fun k => LA.lowV_ptr (A := C) (i := t4.next) (hCo _ ht6'.lt)
  simp (config := { maxSteps := 1000000, implicitDefEqProofs := false }) (disch := omega) only [allW, allR, allL, allB, Nat.sub_self, Nat.add_one_sub_one, Nat.reduceSub, oneOf, evalAll, partsA, optA, Nat.reduceLT, Nat.reduceLeDiff, Nat.reduceEqDiff, Nat.reduceAdd, ↓reduceIte, hn, h0, h3, h4, h6, h7, h8, pw0, pw_doc (hT6.keeps hsr) htl, Thing.loadO (ht6'.keeps hsr) hl4', ml3, ml4, hD6.self, ho6.self]
  refine (resolve_anyP _ (spare t6 0) D mv tc iv ic (hD6.keeps hsr) hs _ c4' _ (ho6.keeps hsr) (getO_small o kRes hso)).mono ?_
  rintro _ t7 ⟨rc, rfl, ho7, k7'⟩
  have m7 := k7'.next
  have hl7 := ho7.len
  refine ⟨fun h => h.elim, ?_⟩
  have k67 : Stay t6.next t6 t7 := hsr.trans (k7'.weaken (by omega))
  simp (config := { maxSteps := 1000000, implicitDefEqProofs := false }) (disch := omega) only [allW, allR, allL, allB, Nat.sub_self, Nat.add_one_sub_one, Nat.reduceSub, oneOf, evalAll, partsA, optA, Nat.reduceLT, Nat.reduceLeDiff, Nat.reduceEqDiff, Nat.reduceAdd, ↓reduceIte, hn, h0, h3, h4, h6, h7, h8, lf3, ho7.self]
  refine LB.sstep_storeN szO (by decide) (tL6.keeps k67) (off := 9) (c := 15) (by rw [lfC_len hMl2 hKl2 rfl]) (vs := rc) (by rw [cells_agg]) hl7 (by rw [lfC_len hMl2 hKl2 rfl]; decide) ho7.ok (fun h => absurd rfl h) ?_
  intro t8 ht8' nt8 et8
  rw [lf_over3 hMl2 hKl2 rfl hl7] at ht8'
  have tf8 : Thing t8 s1.next (lfC Z4 Z4 0 noneC) := (tf6.keeps k67).ofPut nt8 et8 (by omega)
  have hr8 : Thing t8 t4.next c4' := (ht6'.keeps k67).ofPut nt8 et8 (by omega)
  have ho8 : OIs (fun j => t6.next ≤ j) t8 rc (lfR D.items o) := (ho7.mono (fun j (hj : _ ≤ j) => by omega)).ofPut nt8 et8 (by omega)
  have hor8 := ((ho6.keeps k67).ofPut nt8 et8 (by omega))
  have ks8 : Stay s.next s t8 := ks6.trans ((k67.weaken (by have := ks6.next; omega)).trans ⟨by omega, fun j hj => et8 j (by have := ks6.next; omega)⟩)
  have lLf : loadA Try.prog t8 55 (.pointer (some ⟨s2.next, 0, some 15⟩)) = some (.agg (lfC (lfM D.items o) (lfK D.items o) (lfT D.items o) rc).toArray) := Thing.loadAll agLf (by rw [lfC_len hMl2 hKl2 hl7]; exact szLf) ht8' (by rw [lfC_len hMl2 hKl2 hl7])
  have lk1 : loadA Try.prog t8 3 (.pointer (some ⟨t4.next, 0, some 6⟩)) = some (.int .i64 (getO o kRes).kind) := by
    rw [hr8.load (P := Try.prog) agInt (off := 0) (c := 6) (by rw [hl4']) (by omega), hor8.kindC.1]
  have lk2 : loadA Try.prog t8 3 (.pointer (some ⟨s2.next, 9, some 15⟩)) = some (.int .i64 (lfR D.items o).kind) := by
    rw [ht8'.load (P := Try.prog) agInt (off := 9) (c := 15) (by rw [lfC_len hMl2 hKl2 hl7]) (by rw [lfC_len hMl2 hKl2 hl7]; decide), lf_res hMl2 hKl2 hl7, ho8.kindC.1]
  simp (config := { maxSteps := 1000000, implicitDefEqProofs := false }) (disch := omega) only [allW, allR, allL, allB, Nat.sub_self, Nat.add_one_sub_one, Nat.reduceSub, oneOf, evalAll, partsA, optA, Nat.reduceLT, Nat.reduceLeDiff, Nat.reduceEqDiff, Nat.reduceAdd, ↓reduceIte, allW, allR, oneOf, evalAll, partsA, optA, Nat.reduceLT, Nat.reduceLeDiff, Nat.reduceEqDiff, Nat.reduceAdd, ↓reduceIte, hn, h0, h3, h4, h6, h7, h8]
  obtain ⟨E, hE⟩ : ∃ B : Nat → Bool, B = fun j => decide (j < t8.next ∧ j ≠ s1.next) := ⟨_, rfl⟩
  have hEl : ∀ j, E j = true → j < t8.next := by
    intro j h
    rw [hE] at h
    exact (of_decide_eq_true h).1
  have hEo : ∀ j, j < t8.next → j ≠ s1.next → E j = true := fun j h h2 => by rw [hE]; exact decide_eq_true ⟨h, h2⟩
  have hEn : E s1.next = false := by rw [hE]; exact decide_eq_false (fun h => h.2 rfl)
  refine LB.Drawn.looseK E hEl 1 0 (by kernel_rfl) (by kernel_rfl) ?_
  have hss := Stay.spare t8 0
  have hns : (spare t8 0).next = t8.next + 0 := spare_next _ _
  have ml5 : ∀ k, LA.lowV E (some (.pointer (some ⟨s2.next, k, some 15⟩))) = true := fun k => LA.lowV_ptr (A := E) (i := s2.next) (hEo _ ht8'.lt (by omega))
  have ml6 : ∀ k, LA.lowV E (some (.pointer (some ⟨t4.next, k, some 6⟩))) = true := fun k => LA.lowV_ptr (A := E) (i := t4.next) (hEo _ hr8.lt (by omega))
  have hLl : (lfC (lfM D.items o) (lfK D.items o) (lfT D.items o) rc).length = 14 := lfC_len hMl2 hKl2 hl7
  have hLs : valEq (.agg (lfC (lfM D.items o) (lfK D.items o) (lfT D.items o) rc).toArray) (.agg (lfC (lfM D.items o) (lfK D.items o) (lfT D.items o) rc).toArray) = true := lfC_self ho7.self
  have hLo : (lfC (lfM D.items o) (lfK D.items o) (lfT D.items o) rc).all okCell = true := lfC_ok ho7.ok
  have nt8 := ks8.next
  have fin : ∀ (f : AFr) (t9 : ASt), f.n = 77 → f.get 4 = .pointer (some ⟨s1.next, 0, some 15⟩) → f.get 5 = .bool (lfOk D.items o) → Thing t9 s1.next (lfC (lfM D.items o) (lfK D.items o) (lfT D.items o) rc) → t9.next = t8.next → (∀ q, q ≠ s1.next → t9.heap.get q = t8.heap.get q) → wfn Try.prog (Try.f63).results.toList (LeafR s D.items o) .ret f t9 := by
    intro f t9 hn h4 h5 ht9 nt9 et9
    have lb : loadA Try.prog t9 55 (.pointer (some ⟨s1.next, 0, some 15⟩)) = some (.agg (lfC (lfM D.items o) (lfK D.items o) (lfT D.items o) rc).toArray) := Thing.loadAll agLf (by rw [hLl]; exact szLf) ht9 (by rw [hLl])
    simp (config := { maxSteps := 1000000, implicitDefEqProofs := false }) (disch := omega) only [allW, allR, wfn_ret, wfn_normal, oneOf, evalAll, partsA, optA, Nat.reduceLT, Nat.reduceLeDiff, Nat.reduceEqDiff, Nat.reduceAdd, ↓reduceIte, hn, h4, h5, lb, resultsA_cell, Try.results63]
    exact ⟨rc, rfl, (ho8.ofPut nt9 et9 (by omega)).mono (fun j (hj : _ ≤ j) => by have := ks6.next; omega), ks8.trans ⟨by omega, fun j hj => et9 j (by omega)⟩⟩
  have eok : lfOk D.items o = (b1.isSome && (lfKo D.items o && ((turnD D.items (getO o kRot)).2 && (decide ((getO o kRes).kind = 0) || decide ((lfR D.items o).kind = 7))))) := by unfold lfOk; rw [← hb1]
  cases hp : b1.isSome
  · rw [hp] at h7 eok
    simp (config := { maxSteps := 1000000, implicitDefEqProofs := false }) (disch := omega) only [allW, allR, allL, allB, Nat.sub_self, Nat.add_one_sub_one, Nat.reduceSub, oneOf, evalAll, partsA, optA, Nat.reduceLT, Nat.reduceLeDiff, Nat.reduceEqDiff, Nat.reduceAdd, ↓reduceIte, undef, hn, h0, h3, h4, h6, h7, h8, lLf, hLs, ml5, ml6, of0, lf3, lk1, lk2, hn, h0, valEq_bool, valEq_int, spare_zero]
    refine LB.sstep_storeAll szLf (by decide) tf8 rfl rfl (by simpa using hLl) hLo (fun _ => hEn) ?_
    intro t9 ht9 nt9 et9
    have ht9 : Thing t9 s1.next (lfC (lfM D.items o) (lfK D.items o) (lfT D.items o) rc) := ht9
    simp (config := { maxSteps := 1000000, implicitDefEqProofs := false }) (disch := omega) only [allW, allR, allL, allB, Nat.sub_self, Nat.add_one_sub_one, Nat.reduceSub, oneOf, evalAll, partsA, optA, Nat.reduceLT, Nat.reduceLeDiff, Nat.reduceEqDiff, Nat.reduceAdd, ↓reduceIte, allW, allR, oneOf, evalAll, partsA, optA, Nat.reduceLT, Nat.reduceLeDiff, Nat.reduceEqDiff, Nat.reduceAdd, ↓reduceIte, hn, h0, h3, h4, h6, h7, h8]
    exact fin _ _ (by simp only [get_put, n_put, ↓reduceIte, Nat.reduceEqDiff, hn]) (by simp only [get_put, n_put, ↓reduceIte, Nat.reduceEqDiff, h4]) (by simp only [get_put, n_put, ↓reduceIte, Nat.reduceEqDiff]; rw [eok]; rfl) ht9 nt9 et9
  rw [hp] at h7 eok
  cases hq : lfKo D.items o
  · rw [hq] at h8 eok
    simp (config := { maxSteps := 1000000, implicitDefEqProofs := false }) (disch := omega) only [allW, allR, allL, allB, Nat.sub_self, Nat.add_one_sub_one, Nat.reduceSub, oneOf, evalAll, partsA, optA, Nat.reduceLT, Nat.reduceLeDiff, Nat.reduceEqDiff, Nat.reduceAdd, ↓reduceIte, undef, hn, h0, h3, h4, h6, h7, h8, lLf, hLs, ml5, ml6, of0, lf3, lk1, lk2, hn, h0, valEq_bool, valEq_int, spare_zero]
    refine LB.sstep_storeAll szLf (by decide) tf8 rfl rfl (by simpa using hLl) hLo (fun _ => hEn) ?_
    intro t9 ht9 nt9 et9
    have ht9 : Thing t9 s1.next (lfC (lfM D.items o) (lfK D.items o) (lfT D.items o) rc) := ht9
    simp (config := { maxSteps := 1000000, implicitDefEqProofs := false }) (disch := omega) only [allW, allR, allL, allB, Nat.sub_self, Nat.add_one_sub_one, Nat.reduceSub, oneOf, evalAll, partsA, optA, Nat.reduceLT, Nat.reduceLeDiff, Nat.reduceEqDiff, Nat.reduceAdd, ↓reduceIte, allW, allR, oneOf, evalAll, partsA, optA, Nat.reduceLT, Nat.reduceLeDiff, Nat.reduceEqDiff, Nat.reduceAdd, ↓reduceIte, hn, h0, h3, h4, h6, h7, h8]
    exact fin _ _ (by simp only [get_put, n_put, ↓reduceIte, Nat.reduceEqDiff, hn]) (by simp only [get_put, n_put, ↓reduceIte, Nat.reduceEqDiff, h4]) (by simp only [get_put, n_put, ↓reduceIte, Nat.reduceEqDiff]; rw [eok]; rfl) ht9 nt9 et9
  rw [hq] at h8 eok
  cases hr : (turnD D.items (getO o kRot)).2
  · rw [hr] at eok
    simp (config := { maxSteps := 1000000, implicitDefEqProofs := false }) (disch := omega) only [allW, allR, allL, allB, Nat.sub_self, Nat.add_one_sub_one, Nat.reduceSub, oneOf, evalAll, partsA, optA, Nat.reduceLT, Nat.reduceLeDiff, Nat.reduceEqDiff, Nat.reduceAdd, ↓reduceIte, undef, hn, h0, h3, h4, h6, h7, h8, lLf, hLs, ml5, ml6, of0, lf3, lk1, lk2, hr, h0, valEq_bool, valEq_int, spare_zero]
    refine LB.sstep_storeAll szLf (by decide) tf8 rfl rfl (by simpa using hLl) hLo (fun _ => hEn) ?_
    intro t9 ht9 nt9 et9
    have ht9 : Thing t9 s1.next (lfC (lfM D.items o) (lfK D.items o) (lfT D.items o) rc) := ht9
    simp (config := { maxSteps := 1000000, implicitDefEqProofs := false }) (disch := omega) only [allW, allR, allL, allB, Nat.sub_self, Nat.add_one_sub_one, Nat.reduceSub, oneOf, evalAll, partsA, optA, Nat.reduceLT, Nat.reduceLeDiff, Nat.reduceEqDiff, Nat.reduceAdd, ↓reduceIte, allW, allR, oneOf, evalAll, partsA, optA, Nat.reduceLT, Nat.reduceLeDiff, Nat.reduceEqDiff, Nat.reduceAdd, ↓reduceIte, hn, h0, h3, h4, h6, h7, h8]
    exact fin _ _ (by simp only [get_put, n_put, ↓reduceIte, Nat.reduceEqDiff, hn]) (by simp only [get_put, n_put, ↓reduceIte, Nat.reduceEqDiff, h4]) (by simp only [get_put, n_put, ↓reduceIte, Nat.reduceEqDiff]; rw [eok]; rfl) ht9 nt9 et9
  rw [hr] at eok
  by_cases c0 : (getO o kRes).kind = 0
  · have eok : lfOk D.items o = true := by rw [eok, c0]; rfl
    simp (config := { maxSteps := 1000000, implicitDefEqProofs := false }) (disch := omega) only [allW, allR, allL, allB, Nat.sub_self, Nat.add_one_sub_one, Nat.reduceSub, oneOf, evalAll, partsA, optA, Nat.reduceLT, Nat.reduceLeDiff, Nat.reduceEqDiff, Nat.reduceAdd, ↓reduceIte, undef, hn, h0, h3, h4, h6, h7, h8, lLf, hLs, ml5, ml6, of0, lf3, lk1, lk2, hr, c0, valEq_bool, valEq_int, spare_zero]
    refine LB.sstep_storeAll szLf (by decide) tf8 rfl rfl (by simpa using hLl) hLo (fun _ => hEn) ?_
    intro t9 ht9 nt9 et9
    have ht9 : Thing t9 s1.next (lfC (lfM D.items o) (lfK D.items o) (lfT D.items o) rc) := ht9
    simp (config := { maxSteps := 1000000, implicitDefEqProofs := false }) (disch := omega) only [allW, allR, allL, allB, Nat.sub_self, Nat.add_one_sub_one, Nat.reduceSub, oneOf, evalAll, partsA, optA, Nat.reduceLT, Nat.reduceLeDiff, Nat.reduceEqDiff, Nat.reduceAdd, ↓reduceIte, allW, allR, oneOf, evalAll, partsA, optA, Nat.reduceLT, Nat.reduceLeDiff, Nat.reduceEqDiff, Nat.reduceAdd, ↓reduceIte, hn, h0, h3, h4, h6, h7, h8]
    exact fin _ _ (by simp only [get_put, n_put, ↓reduceIte, Nat.reduceEqDiff, hn]) (by simp only [get_put, n_put, ↓reduceIte, Nat.reduceEqDiff, h4]) (by simp only [get_put, n_put, ↓reduceIte, Nat.reduceEqDiff]; rw [eok]; skip) ht9 nt9 et9
  have eok : lfOk D.items o = decide ((lfR D.items o).kind = 7) := by rw [eok, decide_eq_false c0]; rfl
  simp (config := { maxSteps := 1000000, implicitDefEqProofs := false }) (disch := omega) only [allW, allR, allL, allB, Nat.sub_self, Nat.add_one_sub_one, Nat.reduceSub, oneOf, evalAll, partsA, optA, Nat.reduceLT, Nat.reduceLeDiff, Nat.reduceEqDiff, Nat.reduceAdd, ↓reduceIte, undef, hn, h0, h3, h4, h6, h7, h8, lLf, hLs, ml5, ml6, of0, lf3, lk1, lk2, hr, eq_false c0, valEq_bool, valEq_int, spare_zero]
  refine LB.sstep_storeAll szLf (by decide) tf8 rfl rfl (by simpa using hLl) hLo (fun _ => hEn) ?_
  intro t9 ht9 nt9 et9
  have ht9 : Thing t9 s1.next (lfC (lfM D.items o) (lfK D.items o) (lfT D.items o) rc) := ht9
  simp (config := { maxSteps := 1000000, implicitDefEqProofs := false }) (disch := omega) only [allW, allR, allL, allB, Nat.sub_self, Nat.add_one_sub_one, Nat.reduceSub, oneOf, evalAll, partsA, optA, Nat.reduceLT, Nat.reduceLeDiff, Nat.reduceEqDiff, Nat.reduceAdd, ↓reduceIte, allW, allR, oneOf, evalAll, partsA, optA, Nat.reduceLT, Nat.reduceLeDiff, Nat.reduceEqDiff, Nat.reduceAdd, ↓reduceIte, hn, h0, h3, h4, h6, h7, h8]
  exact fin _ _ (by simp only [get_put, n_put, ↓reduceIte, Nat.reduceEqDiff, hn]) (by simp only [get_put, n_put, ↓reduceIte, Nat.reduceEqDiff, h4]) (by simp only [get_put, n_put, ↓reduceIte, Nat.reduceEqDiff]; rw [eok]; skip) ht9 nt9 et9
end Go.Proofs.Ytokfoagohblkoaa
