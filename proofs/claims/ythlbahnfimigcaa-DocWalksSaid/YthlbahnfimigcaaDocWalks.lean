/-
  The statement DocWalks: any document: what a number is, what a reference ends at, what a path of keys leads to, what is reached, the next free number: the law returns true.
  Conditions: none.
-/
import Derived.Test.YthlbahnfimigcaaRows
import Derived.Test.YthlbahnfimigcaaDocJ
import Derived.Test.YthlbahnfimigcaaDocL
import Derived.Test.YthlbahnfimigcaaDocM
import Derived.Test.YthlbahnfimigcaaDocN
import Derived.Test.YthlbahnfimigcaaCosR
import Derived.Test.YthlbahnfimigcaaLibR
set_option linter.unusedSimpArgs false
set_option linter.unusedVariables false
namespace Go.Proofs.Ythlbahnfimigcaa.docWalks
open Go.ChangeShapes Go.WideShapes Go.ChangeAt Go.RowKit Go.Cl Go.Lib
theorem libRf : LibRf libN := by constructor <;> rfl
theorem eqB (b : Bool) : binA Try.prog .eql 4 (.bool b) (.bool b) = some (.bool true) := by cases b <;> kernel_rfl
theorem small_get (q : O) (k : List UInt8) (hq : Small q) : Small (getO q k) := by
  unfold getO
  split
  · cases q with
    | mk kk n b L d =>
      cases hq with
      | mk hb hL hd hK hLs hD =>
        show Small (findE d k)
        unfold findE
        split
        · rename_i e he; exact hD _ (List.mem_of_find?_eq_some he)
        · exact Small.none
  · exact Small.none
theorem small_path {D : List (Int × O)} (h : ∀ e ∈ D, Small e.2) : ∀ (K : List (List UInt8)) {o : O}, Small o → Small (pathD D o K)
  | [], _, ho => ho
  | k :: K, _, ho => small_path h K (resD_small h (small_get _ k ho))
set_option maxRecDepth 100000 in
set_option maxHeartbeats 16000000 in
theorem law (s : ASt) (mv : Value) (tc : List Value) (iv : Value) (ic : List Value) (D : Dc) (hD : DocIs (fun _ => True) s mv tc iv ic D) (hfit : FitD D) (co : List Value) (o : O) (ho : OIs (fun _ => True) s co o) (hfo : Fit o) (x : Value) (K : List (List UInt8)) (hx : Sees s 1 x K.length (Cl.strs K)) (hp : ∀ k ∈ K, k.length ≤ 140737488351232) (hk : K.length ≤ 140737488351232) :
    Runs Try.prog libN 5 [.agg (docC D mv tc iv).toArray, .agg co.toArray, x] s fun v _ => v = .bool true := by
  obtain ⟨QQ, hQQ⟩ : ∃ QQ : Value → ASt → Prop, QQ = fun v _ => v = .bool true := ⟨_, rfl⟩
  rw [← hQQ]
  have htl := hD.trailer.len
  have hol := ho.len
  have dl := db_len (D := D) (mv := mv) (iv := iv) htl
  refine Runs.enter 87 Try.func5 rfl rfl rfl rfl ?_
  intro f hn hf
  have h0 : f.get 0 = .agg (docC D mv tc iv).toArray := hf 0
  have h1 : f.get 1 = .agg co.toArray := hf 1
  have h2 : f.get 2 = x := hf 2
  clear hf
  simp (config := { maxSteps := 1000000, implicitDefEqProofs := false }) (disch := omega) only [allW, Nat.reduceLT, ↓reduceIte, hn, h0]
  refine wstep_newPtr ?_
  intro s1 ht1 hst1 hnx1
  have ht1 : Thing s1 s.next (docC D mv tc iv) := ht1
  simp (config := { maxSteps := 1000000, implicitDefEqProofs := false }) (disch := omega) only [allW, Nat.reduceLT, Nat.reduceEqDiff, Nat.reduceAdd, ↓reduceIte, hn, h1, dl]
  refine wstep_newPtr ?_
  intro s2 ht2 hst2 hnx2
  have ht2 : Thing s2 s1.next co := ht2
  have n1 := hst1.next
  have n2 := hst2.next
  have hs2 : Stay s.next s s2 := hst1.trans (hst2.weaken n1)
  have ht12 := ht1.keeps hst2
  simp (config := { maxSteps := 1000000, implicitDefEqProofs := false }) (disch := omega) only [allW, allR, evalAll, Nat.reduceLT, Nat.reduceAdd, ↓reduceIte, hn, hol]
  refine (awake_any rfl libRf rfl rfl rfl rfl rfl rfl rfl rfl rfl rfl rfl rfl s2).mono ?_
  rintro _ s3 ⟨rfl, k3⟩
  have n3 := k3.next
  have ht13 := ht12.keeps k3
  have ht23 := ht2.keeps k3
  have hs3 : Stay s.next s s3 := hs2.trans (k3.weaken (by omega))
  simp (config := { maxSteps := 1000000, implicitDefEqProofs := false }) (disch := omega) only [allW, allR, evalAll, Nat.reduceLT, Nat.reduceEqDiff, ↓reduceIte, hn, db_all ht13 htl]
  refine (fair_any rfl rfl rfl rfl rfl rfl rfl rfl rfl _ s3 D mv tc iv ic (hD.lows.keeps hs3) hfit).mono ?_
  rintro _ s4 ⟨⟨u, rfl, hu⟩, k4⟩
  have n4 := k4.next
  have ht14 := ht13.keeps k4
  have ht24 := ht23.keeps k4
  have hs4 : Stay s.next s s4 := hs3.trans (k4.weaken (by omega))
  cases u with
  | false =>
    simp (config := { maxSteps := 1000000, implicitDefEqProofs := false }) (disch := omega) only [allW, allR, wfn_ret, oneOf, Nat.reduceLT, Nat.reduceEqDiff, ↓reduceIte, undef, hn, Try.results5]
    rw [hQQ]
  | true =>
  have hfair := hu rfl
  have hsm := hfair.small
  simp (config := { maxSteps := 1000000, implicitDefEqProofs := false }) (disch := omega) only [allW, allR, evalAll, Nat.reduceLT, Nat.reduceEqDiff, ↓reduceIte, hn, Thing.loadO ht24 hol]
  refine (rmayTop_any rfl rfl rfl rfl rfl rfl o _ s4 co (ho.lows.keeps hs4) hfo).mono ?_
  rintro _ s5 ⟨⟨u, rfl, hmay⟩, k5⟩
  have n5 := k5.next
  have ht15 := ht14.keeps k5
  have ht25 := ht24.keeps k5
  have hs5 : Stay s.next s s5 := hs4.trans (k5.weaken (by omega))
  cases u with
  | false =>
    simp (config := { maxSteps := 1000000, implicitDefEqProofs := false }) (disch := omega) only [allW, allR, wfn_ret, oneOf, Nat.reduceLT, Nat.reduceEqDiff, ↓reduceIte, undef, hn, Try.results5]
    rw [hQQ]
  | true =>
  simp (config := { maxSteps := 1000000, implicitDefEqProofs := false }) (disch := omega) only [allW, allR, evalAll, Nat.reduceLT, Nat.reduceEqDiff, ↓reduceIte, hn, Thing.loadO ht25 hol]
  refine (room_any rfl 60 (by decide) _ o (Nat.le_refl _) _ s5 co 8 (ho.lows.keeps hs5) hfo (by decide) (by decide)).mono ?_
  rintro _ s6 ⟨⟨u, rfl, hroom⟩, k6⟩
  have n6 := k6.next
  have ht16 := ht15.keeps k6
  have ht26 := ht25.keeps k6
  have hs6 : Stay s.next s s6 := hs5.trans (k6.weaken (by omega))
  cases u with
  | false =>
    simp (config := { maxSteps := 1000000, implicitDefEqProofs := false }) (disch := omega) only [allW, allR, wfn_ret, oneOf, Nat.reduceLT, Nat.reduceEqDiff, ↓reduceIte, undef, hn, Try.results5]
    rw [hQQ]
  | true =>
  have hso : Small o := (hroom rfl).1
  have hx6 := hx.keeps hs6
  by_cases cK : ((K.length : Nat) : Int) > 10
  · simp (config := { maxSteps := 1000000, implicitDefEqProofs := false }) (disch := omega) only [allW, allR, wfn_ret, oneOf, evalAll, Nat.reduceLT, Nat.reduceEqDiff, ↓reduceIte, hn, h2, hx6.lenA Try.underlying40, eq_true cK, Try.results5]
    rw [hQQ]
  obtain ⟨k, r, hw, hw2⟩ := walks_small hsm
  have hrl := hw.size.2
  rw [List.length_nil, Nat.zero_add] at hrl
  have ho6 := ho.lows.keeps hs6
  have hD6 := hD.lows.keeps hs6
  have ln6 : loadA Try.prog s6 2 (.pointer (some ⟨s1.next, 1, some 6⟩)) = some (.int .i64 o.num) := by
    have := ht26.load (P := Try.prog) agI64 (off := 1) (c := 6) (by rw [hol]) (by omega)
    rw [this, ho6.kindC.2]
  have hd6 : noneC.length + 1 = 6 := rfl
  simp (config := { maxSteps := 1000000, implicitDefEqProofs := false }) (disch := omega) only [allW, allR, evalAll, Nat.reduceLT, Nat.reduceEqDiff, ↓reduceIte, hn, h2, hx6.lenA Try.underlying40, eq_false cK, db_all ht16 htl, of1, ln6]
  obtain ⟨fo, fb, hfd⟩ : ∃ fo fb, findD D.items o.num = (fo, fb) := ⟨_, _, rfl⟩
  have hsf : Small fo := by have := findD_small hsm.items o.num; rw [hfd] at this; exact this
  have hfa := find_any (lib := libN) rfl rfl rfl rfl rfl _ s6 D mv tc iv ic hD6 hsm o.num
  rw [hfd] at hfa
  refine hfa.mono ?_
  rintro _ s7 ⟨cx, rfl, ox, k7⟩
  have n7 := k7.next
  simp (config := { maxSteps := 1000000, implicitDefEqProofs := false }) (disch := omega) only [allW, Nat.reduceLT, Nat.reduceEqDiff, ↓reduceIte, hn, ext0, ext1, zO, plO]
  refine wstep_newPtr ?_
  intro s8 ht8 hst8 hnx8
  simp (config := { maxSteps := 1000000, implicitDefEqProofs := false }) (disch := omega) only [allW, Nat.reduceLT, Nat.reduceEqDiff, ↓reduceIte, hn, hd6]
  refine wstep_storeAll szO (by decide) ht8 rfl rfl ox.len ox.ok ?_
  intro s9 ht9 nt9 et9
  have ht9 : Thing s9 s7.next cx := ht9
  have k79 : Stay s7.next s7 s9 := hst8.trans ⟨by omega, fun j hj => et9 j (by omega)⟩
  have n9 := k79.next
  have k69 : Stay s6.next s6 s9 := k7.trans (k79.weaken (by omega))
  have ht19 := ht16.keeps k69
  have ht29 := ht26.keeps k69
  have ln9 : loadA Try.prog s9 2 (.pointer (some ⟨s1.next, 1, some 6⟩)) = some (.int .i64 o.num) := by
    have := ht29.load (P := Try.prog) agI64 (off := 1) (c := 6) (by rw [hol]) (by omega)
    rw [this, ho6.kindC.2]
  simp (config := { maxSteps := 1000000, implicitDefEqProofs := false }) (disch := omega) only [allW, allR, evalAll, Nat.reduceLT, Nat.reduceEqDiff, ↓reduceIte, hn, db_all ht19 htl, of1, ln9]
  have hfb := rfind_any (lib := libN) rfl _ s9 D mv tc iv ic (hD6.keeps k69) hsm o.num
  rw [hfd] at hfb
  refine hfb.mono ?_
  rintro _ s10 ⟨cy, rfl, oy, k10⟩
  have n10 := k10.next
  simp (config := { maxSteps := 1000000, implicitDefEqProofs := false }) (disch := omega) only [allW, Nat.reduceLT, Nat.reduceEqDiff, ↓reduceIte, hn, ext0, ext1, zO, plO]
  refine wstep_newPtr ?_
  intro s11 ht11 hst11 hnx11
  simp (config := { maxSteps := 1000000, implicitDefEqProofs := false }) (disch := omega) only [allW, Nat.reduceLT, Nat.reduceEqDiff, ↓reduceIte, hn, hd6]
  refine wstep_storeAll szO (by decide) ht11 rfl rfl oy.len oy.ok ?_
  intro s12 ht12' nt12 et12
  have ht12' : Thing s12 s10.next cy := ht12'
  have k1012 : Stay s10.next s10 s12 := hst11.trans ⟨by omega, fun j hj => et12 j (by omega)⟩
  have n12 := k1012.next
  have k912 : Stay s9.next s9 s12 := k10.trans (k1012.weaken (by omega))
  have k612 : Stay s6.next s6 s12 := k69.trans (k912.weaken (by omega))
  simp (config := { maxSteps := 1000000, implicitDefEqProofs := false }) (disch := omega) only [allW, Nat.reduceLT, Nat.reduceEqDiff, ↓reduceIte, hn]
  obtain ⟨B, hB⟩ : ∃ B : Nat → Bool, B = fun j => decide (j < s12.next) := ⟨_, rfl⟩
  have hBl : ∀ j, B j = true → j < s12.next := by
    intro j h
    rw [hB] at h
    exact of_decide_eq_true h
  have hBo : ∀ j, j < s12.next → B j = true := fun j h => by rw [hB]; exact decide_eq_true h
  refine LB.Drawn.looseK B hBl 12 0 (by kernel_rfl) (by kernel_rfl) ?_
  have hsq := Stay.spare s12 0
  have hnq : (spare s12 0).next = s12.next + 0 := spare_next _ _
  have wB : ∀ b, valEq (.bool b) (.bool b) = true := fun b => by cases b <;> rfl
  have lx : ∀ T, Stay s12.next s12 T → loadA Try.prog T 26 (.pointer (some ⟨s7.next, 0, some 6⟩)) = some (.agg cx.toArray) := fun T h => Thing.loadO ((ht9.keeps k912).keeps h) ox.len
  have ly : ∀ T, Stay s12.next s12 T → loadA Try.prog T 26 (.pointer (some ⟨s10.next, 0, some 6⟩)) = some (.agg cy.toArray) := fun T h => Thing.loadO (ht12'.keeps h) oy.len
  have ld : ∀ T, Stay s12.next s12 T → loadA Try.prog T 29 (.pointer (some ⟨s.next, 0, some 10⟩)) = some (.agg (docC D mv tc iv).toArray) := fun T h => db_all ((ht19.keeps k912).keeps h) htl
  have lo : ∀ T, Stay s12.next s12 T → loadA Try.prog T 26 (.pointer (some ⟨s1.next, 0, some 6⟩)) = some (.agg co.toArray) := fun T h => Thing.loadO ((ht29.keeps k912).keeps h) hol
  have mx : ∀ k, LA.lowV B (some (.pointer (some ⟨s7.next, k, some 6⟩))) = true := fun k => LA.lowV_ptr (A := B) (i := s7.next) (hBo _ (ht9.keeps k912).lt)
  have my : ∀ k, LA.lowV B (some (.pointer (some ⟨s10.next, k, some 6⟩))) = true := fun k => LA.lowV_ptr (A := B) (i := s10.next) (hBo _ ht12'.lt)
  have md : ∀ k, LA.lowV B (some (.pointer (some ⟨s.next, k, some 10⟩))) = true := fun k => LA.lowV_ptr (A := B) (i := s.next) (hBo _ (ht19.keeps k912).lt)
  have mo : ∀ k, LA.lowV B (some (.pointer (some ⟨s1.next, k, some 6⟩))) = true := fun k => LA.lowV_ptr (A := B) (i := s1.next) (hBo _ (ht29.keeps k912).lt)
  have xT : ∀ T, Stay s12.next s12 T → OIs _ T cx fo := fun T h => ((ox.keeps k79).keeps k912).keeps h
  have yT : ∀ T, Stay s12.next s12 T → OIs _ T cy fo := fun T h => (oy.keeps k1012).keeps h
  have dT : ∀ T, Stay s12.next s12 T → DocIs (fun j => True ∧ j < s.next) T mv tc iv ic D := fun T h => (hD6.keeps k612).keeps h
  have oT : ∀ T, Stay s12.next s12 T → OIs (fun j => True ∧ j < s.next) T co o := fun T h => (ho6.keeps k612).keeps h
  have kT : ∀ T, Stay s12.next s12 T → Sees T 1 x K.length (Cl.strs K) := fun T h => (hx6.keeps k612).keeps h
  have hsr := resD_small hsm.items hso
  have hnum : ∀ e ∈ D.items, e.1 ≤ 8388607 := fun e he => (hfair.nums e he).2
  simp (config := { maxSteps := 1000000, implicitDefEqProofs := false }) (disch := omega) only [allW, allR, allL, allB, Nat.add_one_sub_one, evalAll, Nat.reduceLT, Nat.reduceEqDiff, ↓reduceIte, hn, wB, eqB fb, lx _ hsq, ly _ hsq, mx, my, ox.self, oy.self]
  refine (rsame_any rfl rfl _ fo fo (Nat.le_refl _) _ _ (spare s12 0) _ _ (xT _ hsq) (yT _ hsq) hsf hsf).mono ?_
  rintro _ t1 ⟨⟨v1, rfl, e1⟩, k1q⟩
  obtain rfl : v1 = true := e1.2 (SameO.self _)
  have g1 : Stay s12.next s12 t1 := hsq.trans (k1q.weaken (by have := hsq.next; omega))
  refine ⟨fun _ => LA.Stay.toA hBl (k1q.weaken (by have := hsq.next; omega)), ?_⟩
  try simp (config := { maxSteps := 1000000, implicitDefEqProofs := false }) (disch := omega) only [allW, allR, allL, allB, Nat.add_one_sub_one, evalAll, Nat.reduceLT, Nat.reduceEqDiff, ↓reduceIte, hn, wB, ld _ g1, md, hD.self, lo _ g1, mo, ho.self]
  refine (resolve_any (lib := libN) rfl rfl rfl rfl rfl rfl rfl _ t1 D mv tc iv ic (dT _ g1) hsm _ co o (oT _ g1) hso).mono ?_
  rintro _ t2 ⟨c2, rfl, o2, k2q⟩
  have g2 : Stay s12.next s12 t2 := g1.trans (k2q.weaken (by have := g1.next; omega))
  refine ⟨fun _ => LA.Stay.toA hBl (k2q.weaken (by have := g1.next; omega)), ?_⟩
  try simp (config := { maxSteps := 1000000, implicitDefEqProofs := false }) (disch := omega) only [allW, allR, allL, allB, Nat.add_one_sub_one, evalAll, Nat.reduceLT, Nat.reduceEqDiff, ↓reduceIte, hn, ld _ g2, md, hD.self, lo _ g2, mo, ho.self]
  refine (rresolve_any (lib := libN) rfl rfl _ t2 D mv tc iv ic (dT _ g2) hsm co o (oT _ g2) hso).mono ?_
  rintro _ t3 ⟨c3, rfl, o3, k3q⟩
  have g3 : Stay s12.next s12 t3 := g2.trans (k3q.weaken (by have := g2.next; omega))
  refine ⟨fun _ => LA.Stay.toA hBl (k3q.weaken (by have := g2.next; omega)), ?_⟩
  try simp (config := { maxSteps := 1000000, implicitDefEqProofs := false }) (disch := omega) only [allW, allR, allL, allB, Nat.sub_self, Nat.add_one_sub_one, Nat.reduceSub, oneOf, evalAll, partsA, optA, Nat.reduceLT, Nat.reduceLeDiff, Nat.reduceEqDiff, Nat.reduceAdd, ↓reduceIte, undef, hn, h0, h1, h2, wB, o2.self, o3.self]
  refine (rsame_any rfl rfl _ _ _ (Nat.le_refl _) _ _ t3 _ _ (o2.keeps k3q) o3 hsr hsr).mono ?_
  rintro _ t4 ⟨⟨v4, rfl, e4⟩, k4q⟩
  obtain rfl : v4 = true := e4.2 (SameO.self _)
  have g4 : Stay s12.next s12 t4 := g3.trans (k4q.weaken (by have := g3.next; omega))
  refine ⟨fun _ => LA.Stay.toA hBl (k4q.weaken (by have := g3.next; omega)), ?_⟩
  try simp (config := { maxSteps := 1000000, implicitDefEqProofs := false }) (disch := omega) only [allW, allR, allL, allB, Nat.add_one_sub_one, evalAll, Nat.reduceLT, Nat.reduceEqDiff, ↓reduceIte, hn, h2, wB, ld _ g4, md, hD.self, lo _ g4, mo, ho.self, (kT _ g4).self]
  refine (path_any (lib := libN) rfl rfl rfl rfl rfl rfl rfl rfl rfl rfl _ t4 D mv tc iv ic (dT _ g4) hsm _ co o (oT _ g4) hso x K (kT _ g4) (by omega) small_get).mono ?_
  rintro _ t5 ⟨c5, rfl, o5, k5q⟩
  have g5 : Stay s12.next s12 t5 := g4.trans (k5q.weaken (by have := g4.next; omega))
  refine ⟨fun _ => LA.Stay.toA hBl (k5q.weaken (by have := g4.next; omega)), ?_⟩
  try simp (config := { maxSteps := 1000000, implicitDefEqProofs := false }) (disch := omega) only [allW, allR, allL, allB, Nat.add_one_sub_one, evalAll, Nat.reduceLT, Nat.reduceEqDiff, ↓reduceIte, hn, h2, ld _ g5, md, hD.self, lo _ g5, mo, ho.self, (kT _ g5).self]
  refine (rpath_any (lib := libN) rfl rfl rfl rfl rfl rfl rfl _ t5 D mv tc iv ic (dT _ g5) hsm co o (oT _ g5) hso x K (kT _ g5) (by omega) small_get).mono ?_
  rintro _ t6 ⟨c6, rfl, o6, k6q⟩
  have g6 : Stay s12.next s12 t6 := g5.trans (k6q.weaken (by have := g5.next; omega))
  refine ⟨fun _ => LA.Stay.toA hBl (k6q.weaken (by have := g5.next; omega)), ?_⟩
  try simp (config := { maxSteps := 1000000, implicitDefEqProofs := false }) (disch := omega) only [allW, allR, allL, allB, Nat.sub_self, Nat.add_one_sub_one, Nat.reduceSub, oneOf, evalAll, partsA, optA, Nat.reduceLT, Nat.reduceLeDiff, Nat.reduceEqDiff, Nat.reduceAdd, ↓reduceIte, undef, hn, h0, h1, h2, wB, o5.self, o6.self]
  refine (rsame_any rfl rfl _ _ _ (Nat.le_refl _) _ _ t6 _ _ (o5.keeps k6q) o6 (small_path hsm.items K hsr) (small_path hsm.items K hsr)).mono ?_
  rintro _ t7 ⟨⟨v7, rfl, e7⟩, k7q⟩
  obtain rfl : v7 = true := e7.2 (SameO.self _)
  have g7 : Stay s12.next s12 t7 := g6.trans (k7q.weaken (by have := g6.next; omega))
  refine ⟨fun _ => LA.Stay.toA hBl (k7q.weaken (by have := g6.next; omega)), ?_⟩
  try simp (config := { maxSteps := 1000000, implicitDefEqProofs := false }) (disch := omega) only [allW, allR, allL, allB, Nat.add_one_sub_one, evalAll, Nat.reduceLT, Nat.reduceEqDiff, ↓reduceIte, hn, wB, ld _ g7, md, hD.self]
  refine (reach_any (lib := libN) rfl rfl rfl rfl rfl rfl rfl rfl _ t7 D mv tc iv ic (dT _ g7) hsm k r hw (by omega)).mono ?_
  rintro v8 t8 ⟨a8, -, k8q⟩
  have g8 : Stay s12.next s12 t8 := g7.trans (k8q.weaken (by have := g7.next; omega))
  refine ⟨fun _ => LA.Stay.toA hBl (k8q.weaken (by have := g7.next; omega)), ?_⟩
  try simp (config := { maxSteps := 1000000, implicitDefEqProofs := false }) (disch := omega) only [allW, allR, allL, allB, Nat.add_one_sub_one, evalAll, Nat.reduceLT, Nat.reduceEqDiff, ↓reduceIte, hn, ld _ g8, md, hD.self]
  refine (rreach_any (lib := libN) rfl rfl rfl _ t8 D mv tc iv ic (dT _ g8) hsm k r hw (by omega)).mono ?_
  rintro v9 t9 ⟨a9, -, k9q⟩
  have g9 : Stay s12.next s12 t9 := g8.trans (k9q.weaken (by have := g8.next; omega))
  refine ⟨fun _ => LA.Stay.toA hBl (k9q.weaken (by have := g8.next; omega)), ?_⟩
  try simp (config := { maxSteps := 1000000, implicitDefEqProofs := false }) (disch := omega) only [allW, allR, allL, allB, Nat.sub_self, Nat.add_one_sub_one, Nat.reduceSub, oneOf, evalAll, partsA, optA, Nat.reduceLT, Nat.reduceLeDiff, Nat.reduceEqDiff, Nat.reduceAdd, ↓reduceIte, undef, hn, h0, h1, h2, wB, a8.self, a9.self]
  refine (ints_any rfl t9 _ _ r r (a8.keeps k9q).sees a9.sees (by omega)).mono ?_
  rintro _ t10 ⟨rfl, k10q⟩
  have g10 : Stay s12.next s12 t10 := g9.trans (k10q.weaken (by have := g9.next; omega))
  refine ⟨fun _ => LA.Stay.toA hBl (k10q.weaken (by have := g9.next; omega)), ?_⟩
  try simp (config := { maxSteps := 1000000, implicitDefEqProofs := false }) (disch := omega) only [allW, allR, allL, allB, Nat.add_one_sub_one, evalAll, Nat.reduceLT, Nat.reduceEqDiff, ↓reduceIte, hn, wB, ld _ g10, md, hD.self]
  refine (next_any (lib := libN) rfl _ t10 D mv tc iv ic (dT _ g10) hsm hnum).mono ?_
  rintro _ t11 ⟨rfl, k11q⟩
  have g11 : Stay s12.next s12 t11 := g10.trans (k11q.weaken (by have := g10.next; omega))
  refine ⟨fun _ => LA.Stay.toA hBl (k11q.weaken (by have := g10.next; omega)), ?_⟩
  try simp (config := { maxSteps := 1000000, implicitDefEqProofs := false }) (disch := omega) only [allW, allR, allL, allB, Nat.sub_self, evalAll, Nat.reduceLT, Nat.reduceEqDiff, ↓reduceIte, hn, ld _ g11, md, hD.self]
  refine (rnext_any (lib := libN) rfl _ t11 D mv tc iv ic (dT _ g11) hsm hnum).mono ?_
  rintro _ t12 ⟨rfl, k12q⟩
  have g12 : Stay s12.next s12 t12 := g11.trans (k12q.weaken (by have := g11.next; omega))
  refine ⟨fun _ => LA.Stay.toA hBl (k12q.weaken (by have := g11.next; omega)), ?_⟩
  simp (config := { maxSteps := 1000000, implicitDefEqProofs := false }) (disch := omega) only [allW, allL, allB, oneOf, Nat.reduceLT, Nat.reduceEqDiff, ↓reduceIte, allW, wfn_ret, oneOf, Nat.reduceLT, Nat.reduceEqDiff, ↓reduceIte, hn, wB, Try.results5]
  rw [hQQ]

theorem own : ownKnob Try.prog.godebug = none := by kernel_rfl
theorem sound : progOk Try.prog libN = true := by kernel_rfl
theorem laid : laidOutB Try.prog = true := by kernel_rfl
theorem read : ∀ t ∈ Try.f5.params.toList, Try.prog.readableRec t = true ∧ t < Try.prog.types.size := by
  have : (Try.f5.params.toList.all fun t => Try.prog.readableRec t && decide (t < Try.prog.types.size)) = true := by kernel_rfl
  intro t ht
  simpa using List.all_eq_true.mp this t ht
set_option maxRecDepth 100000 in
theorem lifted (os : Os) (started : os.Started) (H : Type) (enc : TypeId × Value → H) :
    ReturnsInHanded {} Try.checked os 5 .any (Rows.docWalksSpec.pre6 enc Try.prog Try.f5 Rows.docWalksRow.domain false) (Rows.docWalksSpec.post enc Try.prog Try.f5 false true false false) := by
  refine returnsInHanded_of_change_sized (C := Try.checked) own started (by kernel_rfl) Try.func5
    (ChangeSpec.witness6 (enc := enc) (C := Try.checked) false ⟨#[], #[.agg #[.int .i64 0, .slice none 0 0, .int .i64 0, .int .i64 0, .int .i64 0, .slice none 0 0, .slice none 0 0, .slice none 0 0, .slice none 0 0], .agg #[.int .i64 0, .int .i64 0, .slice none 0 0, .slice none 0 0, .slice none 0 0], .slice none 0 0], []⟩ 8 (by kernel_rfl) (by kernel_rfl) (by kernel_rfl) (by kernel_rfl)) ?_
  intro W base args ds gs before hval hW hcnd hsz _
  obtain ⟨p, q, hA, _, _, _, _⟩ := id hW
  have hA : DataW.TrodAll enc Try.prog W 0 (fun _ => true) true Try.f5.params.toList args.toList ds p := hA
  rw [Try.params5] at hA
  obtain ⟨v0, v1, v2, d0, d1, d2, p0, p1, p2, rfl, rfl, rfl, h0, h1, h2⟩ := trodAll_three hA
  have hv0 : Value.okWide Try.prog W .any base 29 v0 := hval 0 _ _ (by rw [Try.params5]; rfl) rfl
  have hw0 : Wt Try.prog 29 d0 := fun n hn => by simpa using List.all_eq_true.1 hsz n (DataW.weights_mem_each (j := 0) (t := 29) (d := d0) (by rw [Try.params5]; rfl) rfl n hn)
  have hv1 : Value.okWide Try.prog W .any base 26 v1 := hval 1 _ _ (by rw [Try.params5]; rfl) rfl
  have hw1 : Wt Try.prog 26 d1 := fun n hn => by simpa using List.all_eq_true.1 hsz n (DataW.weights_mem_each (j := 1) (t := 26) (d := d1) (by rw [Try.params5]; rfl) rfl n hn)
  have hv2 : Value.okWide Try.prog W .any base 40 v2 := hval 2 _ _ (by rw [Try.params5]; rfl) rfl
  have hw2 : Wt Try.prog 40 d2 := fun n hn => by simpa using List.all_eq_true.1 hsz n (DataW.weights_mem_each (j := 2) (t := 40) (d := d2) (by rw [Try.params5]; rfl) rfl n hn)
  obtain ⟨S0, mv0, tc0, iv0, ic0, D0, hg0, hr0, ho0, hf0⟩ := arg_doc (Begun.start W) hv0 h0 hw0
  obtain ⟨S1, c1, o1, hg1, hr1, ho1, hf1⟩ := arg_obj hg0.begun hv1 h1 hw1
  obtain ⟨S2, x2, K2, hg2, hr2, hs2, hp2, hk2⟩ := arg_strs hg1.begun h2 hw2 hv2
  have hcalls := Runs.callsL libFr (libOk _) sound rfl hg2.begun (law S2.s mv0 tc0 iv0 ic0 D0 ((ho0.keeps hg1.stay).keeps hg2.stay) hf0 c1 o1 (ho1.keeps hg2.stay) hf1 x2 K2 hs2 hp2 hk2) (args' := #[v0, v1, v2]) (VRL.cons ((hr0.mono hg1.ext).mono hg2.ext) (VRL.cons (hr1.mono hg2.ext) (VRL.cons hr2 VRL.nil)))
  refine hcalls.mono fun e W' ⟨he, hb⟩ => ?_
  subst he
  exact law_post laid read rfl Try.underlying4 rfl (fun L hL => by match L, hL with | [a0, a1, a2], _ => rfl) hW hb

theorem over : Rows.docWalksRow.holds Try.pinned (OpenSpec.ofChange Rows.docWalksSpec) :=
  OpenClaim.holds_of_wide 5 Try.f5 rfl rfl rfl rfl rfl rfl rfl ⟨rfl, rfl, rfl, rfl, rfl⟩ rfl rfl rfl rfl rfl (by kernel_rfl) Try.func5 (by kernel_rfl)
    (of_decide_eq_true (by kernel_rfl)) (by unfold Func.isWrapper; first | (rw [if_pos (by decide +kernel)]; kernel_rfl) | (rw [if_neg (by decide +kernel)]; exact ⟨rfl, rfl⟩))
    (fun os started H enc _ => lifted os started H enc)

/-- THE STATEMENT. -/
theorem proved : Rows.DocWalksSaid := over
#print axioms proved
end Go.Proofs.Ythlbahnfimigcaa.docWalks
