import Derived.Test.YtokfoagohblkoaaCosK
import Derived.Test.YtokfoagohblkoaaObjT
import Derived.Test.YtokfoagohblkoaaCutW
set_option linter.unusedSimpArgs false
set_option linter.unusedVariables false
set_option maxRecDepth 100000
namespace Go.Cl
end Go.Cl
namespace Go.Proofs.Ytokfoagohblkoaa
open Go.Cl Go.Lib
end Go.Proofs.Ytokfoagohblkoaa
namespace Go.Proofs.Ytokfoagohblkoaa
open Go.Cl Go.Lib
structure LibRf (lib : Prims) : Prop where
  copy : lib.at 29 = none
  copyB : lib.at 49 = none
  has : lib.at 51 = none
  wit : lib.at 39 = none
  set : lib.at 38 = none
  dict : lib.at 21 = none
  get : lib.at 33 = none
  arr : lib.at 11 = none
  name : lib.at 23 = none
end Go.Proofs.Ytokfoagohblkoaa
namespace Go.Proofs.Ytokfoagohblkoaa
open Go.Cl Go.Lib
end Go.Proofs.Ytokfoagohblkoaa
namespace Go.Proofs.Ytokfoagohblkoaa
open Go.Cl Go.Lib
set_option maxHeartbeats 4000000 in
theorem rarr_any {lib : Prims} (hl : lib.at 11 = none) (hlc : lib.at 29 = none) (hlcl : lib.at 49 = none) (F : Nat → Prop) (s : ASt) (x : Value) (l : List O) (lc : List Value) (hx : Sees s 5 x l.length lc) (rl : ORows OIs 5 F s l lc) (hln : l.length ≤ 100000) (hL1 : ∀ o ∈ l, Small o) :
    Runs Try.prog lib 11 [x] s (NewO s (.mk 6 0 [] l [])) := by
  refine Runs.enter 23 Try.func11 rfl hl rfl rfl ?_
  intro f hn hf
  have h0 : f.get 0 = x := hf 0
  clear hf
  simp (config := { maxSteps := 1000000, implicitDefEqProofs := false }) (disch := omega) only [allW, allR, oneOf, evalAll, partsA, optA, Nat.reduceLT, Nat.reduceLeDiff, Nat.reduceEqDiff, Nat.reduceAdd, ↓reduceIte, hn, h0, zO, plO]
  refine wstep_newPtr ?_
  intro s1 ht1 hst1 hnx1
  have hd6 : noneC.length + 1 = 6 := rfl
  simp (config := { maxSteps := 1000000, implicitDefEqProofs := false }) (disch := omega) only [allW, allR, oneOf, evalAll, partsA, optA, Nat.reduceLT, Nat.reduceLeDiff, Nat.reduceEqDiff, Nat.reduceAdd, ↓reduceIte, hn, h0, hd6, bO1, zO, plO]
  refine wstep_newPtr ?_
  intro s2 ht2 hst2 hnx2
  simp (config := { maxSteps := 1000000, implicitDefEqProofs := false }) (disch := omega) only [allW, allR, oneOf, evalAll, partsA, optA, Nat.reduceLT, Nat.reduceLeDiff, Nat.reduceEqDiff, Nat.reduceAdd, ↓reduceIte, hn, h0, hd6]
  refine wstep_storeAll szO (by decide) ht2 rfl rfl rfl rfl ?_
  intro s3 ht3 hnx3 hot3
  have ht3 : Thing s3 s1.next [.int .i64 6, .int .i64 0, .slice none 0 0, .slice none 0 0, .slice none 0 0] := ht3
  have hs13 : Stay s1.next s1 s3 := hst2.trans ⟨by omega, fun j hj => hot3 j (by omega)⟩
  have hs3 : Stay s.next s s3 := hst1.trans (hs13.weaken (by omega))
  have ht13 := ht1.keeps hs13
  have hx3 := hx.keeps hs3
  have hn1 := hst1.next
  have hn13 := hs13.next
  have hlt3 := ht3.lt
  simp (config := { maxSteps := 1000000, implicitDefEqProofs := false }) (disch := omega) only [allW, allR, oneOf, evalAll, partsA, optA, Nat.reduceLT, Nat.reduceLeDiff, Nat.reduceEqDiff, Nat.reduceAdd, ↓reduceIte, hn, h0]
  obtain ⟨FF, hFF⟩ : ∃ FF : Value → Nat → Prop, FF = fun v j => s3.next ≤ j ∧ ¬ (fun _ => False) j ∧ idOf v ≠ some j := ⟨_, rfl⟩
  refine Comes.loopOut (fun z f t => ∃ (i : Nat) (y : Value) (LC : List Value), z = l.length - i ∧ i ≤ l.length ∧ Own t 5 y i LC ∧ ORows OIs 5 (FF y) t (l.take i) LC ∧ Fresh s3.next y ∧ Thing t s1.next [.int .i64 6, .int .i64 0, .slice none 0 0, y, .slice none 0 0] ∧ Stay s1.next s1 t ∧ s3.next ≤ t.next ∧ f.n = 23 ∧ f.get 0 = x ∧ f.get 2 = .pointer (some ⟨s.next, 0, some 6⟩) ∧ f.get 3 = .pointer (some ⟨s1.next, 0, some 6⟩) ∧ f.get 4 = .int .i64 (i : Nat))
    (fun z f t => z = .exit 0 ∧ ∃ (y : Value) (LC : List Value), Own t 5 y l.length LC ∧ ORows OIs 5 (FF y) t l LC ∧ Fresh s3.next y ∧ Thing t s1.next [.int .i64 6, .int .i64 0, .slice none 0 0, y, .slice none 0 0] ∧ Stay s1.next s1 t ∧ f.n = 23 ∧ f.get 2 = .pointer (some ⟨s.next, 0, some 6⟩) ∧ f.get 3 = .pointer (some ⟨s1.next, 0, some 6⟩))
    ⟨0, .slice none 0 0, [], rfl, by omega, .nil, by rw [List.take_zero]; exact ORows.nil, Fresh.nil _, ht3, hs13, Nat.le_refl _, by simp only [get_put, n_put, ↓reduceIte, Nat.reduceEqDiff, hn], by simp only [get_put, n_put, ↓reduceIte, Nat.reduceEqDiff, h0], by simp only [get_put, n_put, ↓reduceIte, Nat.reduceEqDiff], by simp only [get_put, n_put, ↓reduceIte, Nat.reduceEqDiff], by simp only [get_put, n_put, ↓reduceIte, Nat.reduceEqDiff]; rfl⟩ ?_ ?_
  · clear hn h0 f
    rintro Q hQ z f s6 ⟨i, y, LC, rfl, hi, hy, hR, hyF, hb3', hst6, hn6, hn, h0, h2, h3, h4⟩
    have hst06 : Stay s.next s s6 := hst1.trans (hst6.weaken hn1)
    have hL6 := hx.keeps hst06
    by_cases hlt : i < l.length
    rotate_left
    · obtain rfl : i = l.length := by omega
      rw [List.take_length] at hR
      have d1 : ¬ ((l.length : Nat) : Int) < ((l.length : Nat) : Int) := by omega
      simp (config := { maxSteps := 1000000, implicitDefEqProofs := false }) (disch := omega) only [allW, allR, oneOf, evalAll, partsA, optA, Nat.reduceLT, Nat.reduceLeDiff, Nat.reduceEqDiff, Nat.reduceAdd, ↓reduceIte, hn, h0, h2, h3, h4, hL6.lenA Try.underlying28, eq_false d1]
      exact hQ _ _ _ ⟨rfl, y, LC, hy, hR, hyF, hb3', hst6, by simp only [get_put, n_put, ↓reduceIte, Nat.reduceEqDiff, hn], by simp only [get_put, n_put, ↓reduceIte, Nat.reduceEqDiff, h2], by simp only [get_put, n_put, ↓reduceIte, Nat.reduceEqDiff, h3]⟩
    have hy2 : idOf y ≠ some s1.next := fun e => by have := hyF _ e; omega
    have d1 : (i : Int) < (l.length : Int) := by omega
    simp (config := { maxSteps := 1000000, implicitDefEqProofs := false }) (disch := omega) only [allW, allR, oneOf, evalAll, partsA, optA, Nat.reduceLT, Nat.reduceLeDiff, Nat.reduceEqDiff, Nat.reduceAdd, ↓reduceIte, hn, h0, h2, h3, h4, hL6.lenA Try.underlying28, eq_true d1]
    obtain ⟨A, hA⟩ : ∃ A : Nat → Bool, A = fun j => decide (j < s6.next) := ⟨_, rfl⟩
    have hAl : ∀ j, A j = true → j < s6.next := by
      intro j h
      rw [hA] at h
      exact of_decide_eq_true h
    have hAo : ∀ j, j < s6.next → A j = true := fun j h => by rw [hA]; exact decide_eq_true h
    refine LB.Drawn.looseK A hAl 1 1 (by kernel_rfl) (by kernel_rfl) ?_
    have hsp := Stay.spare s6 1
    have hnT : (spare s6 1).next = s6.next + 1 := spare_next _ _
    have hlow3 : ∀ k, LA.lowV A (some (.pointer (some ⟨s1.next, k, some 6⟩))) = true := fun k => LA.lowV_ptr (A := A) (i := s1.next) (hAo _ hb3'.lt)
    have l8 : loadA Try.prog (spare s6 1) 28 (.pointer (some ⟨s1.next, 3, some 6⟩)) = some y := (hb3'.keeps hsp).load agLs (off := 3) (c := 6) rfl (by simp)
    have hL7 := hL6.keeps hsp
    have hix := hL7.indexAddr (P := Try.prog) (k := .i64) (x := (i : Int)) Try.underlying28 szO (by omega) (by omega)
    rw [Int.toNat_natCast] at hix
    have hld := hL7.loadAgg (P := Try.prog) agO szO hlt
    have hoi := ((rl.row i hlt).keeps hst06).keeps hsp
    obtain ⟨xs, hxs⟩ : ∃ xs, xs = (lc.drop (i * 5)).take 5 := ⟨_, rfl⟩
    rw [← hxs] at hld hoi
    simp (config := { maxSteps := 1000000, implicitDefEqProofs := false }) (disch := omega) only [allW, allR, allL, allB, Nat.sub_self, Nat.add_one_sub_one, Nat.reduceSub, oneOf, evalAll, partsA, optA, Nat.reduceLT, Nat.reduceLeDiff, Nat.reduceEqDiff, Nat.reduceAdd, ↓reduceIte, hn, h0, h2, h3, h4, of3, hlow3, l8, hy.self, hL7.self, hix, hld, hoi.self, valEq_elemPtr, LA.lowV_elemOld hL6 hAo hlt]
    refine (rcopyO hlc hlcl _ l[i] (Nat.le_refl _) F (spare s6 1) _ hoi (hL1 _ (List.getElem_mem hlt))).mono ?_
    rintro _ s9 ⟨cs7, rfl, ho7, hst9⟩
    have hn9 := hst9.next
    refine ⟨fun _ => LA.Stay.toA hAl (hst9.weaken (by omega)), ?_⟩
    have hl7 := ho7.len
    simp (config := { maxSteps := 1000000, implicitDefEqProofs := false }) (disch := omega) only [allW, allR, allL, allB, Nat.sub_self, Nat.add_one_sub_one, Nat.reduceSub, oneOf, evalAll, partsA, optA, Nat.reduceLT, Nat.reduceLeDiff, Nat.reduceEqDiff, Nat.reduceAdd, ↓reduceIte, hn, h0, h2, h3, h4, ho7.self, buildAgg1 (cs := cs7.toArray) Try.underlying28 szO zO plO rfl hl7 (by decide)]
    refine LB.smake_newSlice (base := s6.next) hl7 (by omega) (Nat.le_refl _) ?_
    intro bs sa hbs hid hsta hnxa hota
    have hst6a : Stay s6.next s6 sa := (hsp.trans (hst9.weaken (by omega))).trans hsta
    have hna := hst6a.next
    have ho8 : OIs (FF y) sa cs7 l[i] := by
      refine (ho7.turns (u := .pointer (some ⟨s6.next, 0, none⟩)) (Turns.ofPut hnxa hota) (fun j hj e => ?_)).mono (fun j hj => ?_)
      · have e : some s6.next = some j := e
        injection e with e; omega
      · rw [hFF]; exact ⟨by omega, fun h => h, fun e => by have := hy.idlt _ e; omega⟩
    simp (config := { maxSteps := 1000000, implicitDefEqProofs := false }) (disch := omega) only [allW, allR, allL, allB, Nat.sub_self, Nat.add_one_sub_one, Nat.reduceSub, oneOf, evalAll, partsA, optA, Nat.reduceLT, Nat.reduceLeDiff, Nat.reduceEqDiff, Nat.reduceAdd, ↓reduceIte, hn, h0, h2, h3, h4, hy.self]
    refine LB.sstep_append Try.underlying28 Try.underlying28 (.inl ⟨_, rfl⟩) szO byO zO rfl (hy.keeps hst6a) hbs.sees.src hl7 (by decide) ho8.ok (by omega) (by omega) (base := s3.next) hyF (by omega) (fun h => absurd rfl h) (fun j hj => by have := hAl j hj; omega) ?_
    intro y' sb hyb hFb hutb hor
    have hnb := hutb.next
    have hR8 := hR.keeps rowedO hst6a
    rw [hFF] at hR8 ho8
    have hR9 := hR8.grow rowedO hl7 ho8 hutb hor
    rw [show (fun j => s3.next ≤ j ∧ ¬ (fun _ => False) j ∧ idOf y' ≠ some j) = FF y' by rw [hFF]] at hR9
    have hyb2 : idOf y' ≠ some s1.next := fun e => by have := hFb _ e; omega
    simp (config := { maxSteps := 1000000, implicitDefEqProofs := false }) (disch := omega) only [allW, allR, allL, allB, Nat.sub_self, Nat.add_one_sub_one, Nat.reduceSub, oneOf, evalAll, partsA, optA, Nat.reduceLT, Nat.reduceLeDiff, Nat.reduceEqDiff, Nat.reduceAdd, ↓reduceIte, hn, h0, h2, h3, h4, of3, hlow3]
    refine LB.sstep_storeN szLs (by decide) ((hb3'.keeps hst6a).turns hutb hy2) (off := 3) (c := 6) rfl (vs := [y']) hyb.sees.cell1 rfl (by simp) (by simp [hyb.sees.okCell]) (fun h => absurd rfl h) ?_
    intro sc htc hnxc hotc
    have htc : Thing sc s1.next [.int .i64 6, .int .i64 0, .slice none 0 0, y', .slice none 0 0] := htc
    have huc : Turns (.pointer (some ⟨s1.next, 0, none⟩)) sb sc := Turns.ofPut hnxc hotc
    have hnec : ∀ j, FF y' j → idOf (.pointer (some ⟨s1.next, 0, none⟩)) ≠ some j := fun j hj e => by
      have e : some s1.next = some j := e
      injection e with e
      rw [hFF] at hj; have := hj.1; omega
    simp (config := { maxSteps := 1000000, implicitDefEqProofs := false }) (disch := omega) only [allW, allR, allL, allB, Nat.sub_self, Nat.add_one_sub_one, Nat.reduceSub, oneOf, evalAll, partsA, optA, Nat.reduceLT, Nat.reduceLeDiff, Nat.reduceEqDiff, Nat.reduceAdd, ↓reduceIte, hn, h0, h2, h3, h4, wrapI]
    have hn6' := hst6.next
    refine wround_next (l.length - (i + 1)) (by omega) ⟨i + 1, y', LC ++ cs7, rfl, by omega, hyb.ofPut hnxc hotc hyb2, ?_, hFb, htc, ?_, by omega, by simp only [get_put, n_put, ↓reduceIte, Nat.reduceEqDiff, hn], by simp only [get_put, n_put, ↓reduceIte, Nat.reduceEqDiff, h0], by simp only [get_put, n_put, ↓reduceIte, Nat.reduceEqDiff, h2], by simp only [get_put, n_put, ↓reduceIte, Nat.reduceEqDiff, h3], by simp only [get_put, n_put, ↓reduceIte, Nat.reduceEqDiff]; rfl⟩
    · rw [List.take_add_one, List.getElem?_eq_getElem hlt]
      exact hR9.turns rowedO huc hnec
    · exact ((hst6.trans (hst6a.weaken (by omega))).trans ((hutb.keeps hyF (by omega)).weaken (by omega))).trans ⟨by omega, fun j hj => hotc j (by omega)⟩
  clear hn h0 f
  rintro z f t ⟨rfl, y, LC, hy, hR, hyF, hb3', hst, hn, h2, h3⟩
  have hfin : OIs (fun j => s3.next ≤ j) t [.int .i64 6, .int .i64 0, .slice none 0 0, y, .slice none 0 0] (.mk 6 0 [] l []) := OIs.whole .nil hy.sees .nil trivial (Foot.fresh hyF) trivial (hR.mono rowedO (fun j hj => by rw [hFF] at hj; exact hj.1)) ORows.nil
  simp (config := { maxSteps := 1000000, implicitDefEqProofs := false }) (disch := omega) only [allW, allR, oneOf, evalAll, partsA, optA, Nat.reduceLT, Nat.reduceLeDiff, Nat.reduceEqDiff, Nat.reduceAdd, ↓reduceIte, hn, h2, h3, Thing.loadO hb3' rfl]
  refine wstep_storeAll szO (by decide) (ht1.keeps hst) rfl rfl rfl hfin.ok ?_
  intro s7 ht7 hnx7 hot7
  simp (config := { maxSteps := 1000000, implicitDefEqProofs := false }) (disch := omega) only [allW, allR, wfn_ret, wfn_normal, oneOf, evalAll, partsA, optA, Nat.reduceLT, Nat.reduceLeDiff, Nat.reduceEqDiff, Nat.reduceAdd, ↓reduceIte, hn, h2, Thing.loadO ht7 rfl, resultsA_cell, Try.results11]
  exact NewO.put hfin (fun j hj => ⟨by omega, by omega⟩) hnx7 hot7 (hst1.trans (hst.weaken hn1)) (Nat.le_refl _)
end Go.Proofs.Ytokfoagohblkoaa
