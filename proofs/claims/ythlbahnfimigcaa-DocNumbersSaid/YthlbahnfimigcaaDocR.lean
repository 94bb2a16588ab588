/-
  Documents: numbered: the program, the reference; are two the same?
-/
import Derived.Test.YthlbahnfimigcaaDocP
import Derived.Test.YthlbahnfimigcaaDocN
import Derived.Test.YthlbahnfimigcaaCosS
set_option linter.unusedSimpArgs false
set_option linter.unusedVariables false
namespace Go.Cl
def NewD (s : ASt) (D : Dc) (v : Value) (s' : ASt) : Prop := ∃ mv tc iv ic, v = .agg (docC D mv tc iv).toArray ∧ DocIs (fun j => s.next ≤ j) s' mv tc iv ic D ∧ Stay s.next s s'
theorem numI_take {D : List (Int × O)} {r : List Int} {i : Nat} (h : i < r.length) : (numI D r).take (i + 1) = (numI D r).take i ++ [(((i + 1 : Nat) : Int), renO r (findD D r[i]).1)] := by
  have h' : i < (numI D r).length := by rw [numI_length]; exact h
  rw [List.take_add_one, List.getElem?_eq_getElem h', numI_get h h']; rfl
theorem Own.slice {s : ASt} {z : Nat} {v : Value} {n : Nat} {l : List Value} (h : Own s z v n l) : ∃ a n c, v = .slice a n c := by cases h <;> exact ⟨_, _, _, rfl⟩
theorem item_self {cs : List Value} (n : Int) (h : valEq (.agg cs.toArray) (.agg cs.toArray) = true) : valEq (.agg (.int .i64 n :: cs).toArray) (.agg (.int .i64 n :: cs).toArray) = true := by
  have h : valEqL cs cs = true := h
  show valEqL (.int .i64 n :: cs) (.int .i64 n :: cs) = true
  simp [valEqL, valEq1, h]
end Go.Cl
namespace Go.Proofs.Ythlbahnfimigcaa
open Go.Cl Go.Lib
theorem bDoc4 (mi ta : Int) (a : Option Addr) (n c : Nat) {tc : List Value} (hl : tc.length = 5) : buildA Try.prog 29 [(0, .int .i64 mi), (1, .slice a n c), (2, .int .i64 ta), (3, .agg tc.toArray)] = some (.agg (.int .i64 mi :: .slice a n c :: .int .i64 ta :: (tc ++ [.slice none 0 0])).toArray) := by
  obtain ⟨a, b, c, d, e, rfl⟩ := five hl
  kernel_rfl
theorem dc_over {D : Dc} {mv iv : Value} {tc : List Value} (hl : tc.length = 5) (iv' : Value) : over (docC D mv tc iv) 8 [iv'] = docC D mv tc iv' := by
  obtain ⟨a, b, c, d, e, rfl⟩ := five hl
  rfl
set_option maxHeartbeats 8000000 in
theorem number_any {lib : Prims} (hl : lib.at 14 = none) (hwd : lib.at 38 = none) (ho : lib.at 59 = none) (hw : lib.at 60 = none) (hrv : lib.at 78 = none) (hrf : lib.at 61 = none) (hlp : lib.at 79 = none) (hle : lib.at 67 = none)
    (hrn : lib.at 43 = none) (hln : lib.at 49 = none) (hlr : lib.at 62 = none) (hlb : lib.at 42 = none) (hlc : lib.at 41 = none)
    (F : Nat → Prop) (s : ASt) (D : Dc) (mv : Value) (tc : List Value) (iv : Value) (ic : List Value) (hD : DocIs F s mv tc iv ic D) (hs : SmallD D) (k : Nat) (r : List Int) (hk : WalksN D.items k (refsO D.trailer) [] r) (hk0 : k ≤ 10000000) :
    Runs Try.prog lib 14 [.agg (docC D mv tc iv).toArray] s (NewD s (numD D r)) := by
  have htl := hD.trailer.len
  have dl := db_len (D := D) (mv := mv) (iv := iv) htl
  have hmk := hs.mark
  obtain ⟨hall, -⟩ := walks_from hk
  have hrl := hk.size.2
  rw [List.length_nil, Nat.zero_add] at hrl
  refine Runs.enter 54 Try.func14 rfl hl rfl rfl ?_
  intro f hn hf
  have h0 : f.get 0 = .agg (docC D mv tc iv).toArray := hf 0
  clear hf
  simp (config := { maxSteps := 1000000, implicitDefEqProofs := false }) (disch := omega) only [allW, Nat.reduceLT, ↓reduceIte, hn, h0]
  refine wstep_newPtr ?_
  intro s1 ht1 hst1 hnx1
  have ht1 : Thing s1 s.next (docC D mv tc iv) := ht1
  simp (config := { maxSteps := 1000000, implicitDefEqProofs := false }) (disch := omega) only [allW, Nat.reduceLT, Nat.reduceAdd, ↓reduceIte, hn, dl, zD, plD]
  refine wstep_newPtr ?_
  intro s2 ht2 hst2 hnx2
  have hd10 : noneD.length + 1 = 10 := rfl
  have n1 := hst1.next
  have n2 := hst2.next
  have hs2 : Stay s.next s s2 := hst1.trans (hst2.weaken n1)
  have ht12 := ht1.keeps hst2
  simp (config := { maxSteps := 1000000, implicitDefEqProofs := false }) (disch := omega) only [allW, allR, evalAll, Nat.reduceLT, Nat.reduceEqDiff, ↓reduceIte, hn, hd10, db_all ht12 htl]
  refine (walked_any hwd ho hw hrv hrf hlp hle (fun j => F j ∧ j < s.next) s2 D mv tc iv ic (hD.lows.keeps hs2) hs k r hk hk0).mono ?_
  rintro _ s3 ⟨w, a, m, TA, TM, lv, rfl, hW, hA, hM, hst3⟩
  have n3 := hst3.next
  have hs3 : Stay s.next s s3 := hs2.trans (hst3.weaken (by omega))
  have ht13 := ht12.keeps hst3
  have ht23 := ht2.keeps hst3
  have hD3 := hD.lows.keeps hs3
  have hwm : MetIs s3 w r := ⟨D, mv, tc, iv, a, m, lv, TM, htl, hW.thing, hW.met, hM⟩
  simp (config := { maxSteps := 1000000, implicitDefEqProofs := false }) (disch := omega) only [allW, Nat.reduceLT, ↓reduceIte, hn]
  obtain ⟨A, hAe⟩ : ∃ A : Nat → Bool, A = fun j => decide (j < s3.next) := ⟨_, rfl⟩
  have hAl : ∀ j, A j = true → j < s3.next := by
    intro j h
    rw [hAe] at h
    exact of_decide_eq_true h
  have hAo : ∀ j, j < s3.next → A j = true := fun j h => by rw [hAe]; exact decide_eq_true h
  refine LB.Drawn.looseK A hAl 2 1 (by kernel_rfl) (by kernel_rfl) ?_
  have hsp := Stay.spare s3 1
  have hnT : (spare s3 1).next = s3.next + 1 := spare_next _ _
  have htq := ht13.keeps hsp
  have hDq := hD3.keeps hsp
  have hlow : ∀ k, LA.lowV A (some (.pointer (some ⟨s.next, k, some 10⟩))) = true := fun k => LA.lowV_ptr (A := A) (i := s.next) (hAo _ ht13.lt)
  simp (config := { maxSteps := 1000000, implicitDefEqProofs := false }) (disch := omega) only [allW, allR, allL, allB, Nat.add_one_sub_one, evalAll, Nat.reduceLT, Nat.reduceEqDiff, ↓reduceIte, hn, df0, df1, df2, hlow, db_minor htq htl, db_mark htq htl, hDq.mark.self]
  refine (clone_any hlb (spare s3 1) mv D.mark hDq.mark (by omega)).mono ?_
  rintro mv' s4 ⟨hmo, hmF, hst4⟩
  have n4 := hst4.next
  have htq4 := htq.keeps hst4
  have hDq4 := hDq.keeps hst4
  refine ⟨fun _ => LA.Stay.toA hAl (hst4.weaken (by omega)), ?_⟩
  have k34 : Stay s3.next s3 s4 := hsp.trans (hst4.weaken (by omega))
  simp (config := { maxSteps := 1000000, implicitDefEqProofs := false }) (disch := omega) only [allW, allR, allL, allB, Nat.sub_self, evalAll, partsA, Nat.reduceLT, Nat.reduceEqDiff, ↓reduceIte, hn, df3, hlow, db_tail htq4 htl, db_trailer htq4 htl, hDq4.trailer.self]
  refine (renamed_any hrn hln hlr hlb hlc hall.once w _ D.trailer (Nat.le_refl _) _ s4 tc (hwm.keeps k34) hDq4.trailer hs.trailer).mono ?_
  rintro _ s5 ⟨tc', rfl, ho5, hst5⟩
  have n5 := hst5.next
  have htl' := ho5.len
  refine ⟨fun _ => LA.Stay.toA hAl (hst5.weaken (by omega)), ?_⟩
  obtain ⟨ma, ml, mb, rfl⟩ := hmo.slice
  have hm5 := hmo.keeps hst5
  have hD5 : DocIs (fun _ => True) s5 (.slice ma ml mb) tc' (.slice none 0 0) [] ⟨D.minor, D.mark, D.tail, renO r D.trailer, []⟩ := ⟨hm5.sees, Foot.of_id (fun _ _ => trivial), ho5.mono (fun _ _ => trivial), .nil, Foot.of_id (fun _ _ => trivial), ORows.nil⟩
  have hself5 := hD5.self
  have hl5 := docC_len hD5
  have hk5 := docC_ok hD5
  have hbd : buildA Try.prog 29 [(0, .int .i64 D.minor), (1, .slice ma ml mb), (2, .int .i64 D.tail), (3, .agg tc'.toArray)] = some (.agg (docC D (.slice ma ml mb) tc' (.slice none 0 0)).toArray) := bDoc4 D.minor D.tail ma ml mb htl'
  have hself5 : valEq (.agg (docC D (.slice ma ml mb) tc' (.slice none 0 0)).toArray) (.agg (docC D (.slice ma ml mb) tc' (.slice none 0 0)).toArray) = true := hself5
  have hl5 : (docC D (.slice ma ml mb) tc' (.slice none 0 0)).length = 9 := hl5
  have hk5 : (docC D (.slice ma ml mb) tc' (.slice none 0 0)).all okCell = true := hk5
  obtain ⟨mv', hmv⟩ : ∃ mv' : Value, mv' = .slice ma ml mb := ⟨_, rfl⟩
  simp (config := { maxSteps := 1000000, implicitDefEqProofs := false }) (disch := omega) only [allW, allB, Nat.reduceLT, ↓reduceIte, hn, hbd, hself5, zD, plD]
  clear hbd
  rw [← hmv] at hself5 hl5 hk5 hm5 hD5 hmF hmo ⊢
  refine LB.smake_newPtr (by omega) ?_
  intro s6 ht6 hnx6 hot6
  simp (config := { maxSteps := 1000000, implicitDefEqProofs := false }) (disch := omega) only [allW, allB, Nat.reduceLT, Nat.reduceEqDiff, ↓reduceIte, hn, hd10]
  refine LB.sstep_storeAll szD (by decide) ht6 rfl rfl (by simpa using hl5) hk5 (fun h => absurd rfl h) ?_
  intro s7 ht7 hnx7 hot7
  have ht7 : Thing s7 s3.next (docC D mv' tc' (.slice none 0 0)) := ht7
  have k37 : Stay s3.next s3 s7 := ((k34.trans (hst5.weaken (by omega))).trans ⟨by omega, fun j hj => hot6 j (by omega)⟩).trans ⟨by omega, fun j hj => hot7 j (by omega)⟩
  have m7 := k37.next
  have hm7 : Own s7 1 mv' D.mark.length (ofBytes D.mark) := (hm5.ofPut hnx6 hot6 (fun e => by have := hmF _ e; omega)).ofPut hnx7 hot7 (fun e => by have := hmF _ e; omega)
  have ho7 : OIs (fun j => s3.next + 1 ≤ j ∧ j < s7.next) s7 tc' (renO r D.trailer) := by
    have := ((ho5.ofPut hnx6 hot6 (by omega)).ofPut hnx7 hot7 (by omega)).lows
    exact this.mono (fun j hj => ⟨by have := hj.1; omega, hj.2⟩)
  have hmi : ∀ j, idOf mv' = some j → s3.next + 1 ≤ j ∧ j < s7.next := fun j hj => ⟨by have := hmF j hj; omega, hm7.idlt j hj⟩
  have hW7 := hW.keeps k37
  have hln7 := hW7.list.sees.lenA (P := Try.prog) Try.underlying32 (s2 := s7)
  simp (config := { maxSteps := 1000000, implicitDefEqProofs := false }) (disch := omega) only [allW, allB, Nat.reduceSub, evalAll, Nat.reduceLT, Nat.reduceEqDiff, ↓reduceIte, allW, evalAll, Nat.reduceLT, Nat.reduceEqDiff, ↓reduceIte, hn, wf3, wk_list hW7.thing htl, hln7]
  have ht27 := ht23.keeps k37
  have ht17 := ht13.keeps k37
  have hp7 : s3.next < s7.next := ht7.lt
  obtain ⟨FF, hFF⟩ : ∃ FF : Value → Nat → Prop, FF = fun v j => s7.next ≤ j ∧ ¬ (fun _ => False) j ∧ idOf v ≠ some j := ⟨_, rfl⟩
  refine Comes.loopOut (fun z f t => ∃ (i : Nat) (y : Value) (IC : List Value), z = r.length - i ∧ i ≤ r.length ∧ Own t 6 y i IC ∧ ORows ItIs 6 (FF y) t ((numI D.items r).take i) IC ∧ Fresh s7.next y ∧ Thing t s.next (docC D mv tc iv) ∧ Thing t s1.next noneD ∧ Thing t s3.next (docC D mv' tc' y) ∧ Turns (.pointer (some ⟨s3.next, 0, none⟩)) s7 t ∧ f.n = 54 ∧ f.get 1 = .pointer (some ⟨s.next, 0, some 10⟩) ∧ f.get 2 = .pointer (some ⟨s1.next, 0, some 10⟩) ∧ f.get 3 = .pointer (some ⟨w, 0, some 13⟩) ∧ f.get 4 = .pointer (some ⟨s3.next, 0, some 10⟩) ∧ f.get 24 = lv ∧ f.get 25 = .int .i64 (r.length : Nat) ∧ f.get 26 = .int .i64 (i : Nat))
    (fun z f t => z = .exit 0 ∧ ∃ (y : Value) (IC : List Value), Own t 6 y r.length IC ∧ ORows ItIs 6 (FF y) t (numI D.items r) IC ∧ Fresh s7.next y ∧ Thing t s1.next noneD ∧ Thing t s3.next (docC D mv' tc' y) ∧ Turns (.pointer (some ⟨s3.next, 0, none⟩)) s7 t ∧ f.n = 54 ∧ f.get 2 = .pointer (some ⟨s1.next, 0, some 10⟩) ∧ f.get 4 = .pointer (some ⟨s3.next, 0, some 10⟩))
    ⟨0, .slice none 0 0, [], rfl, by omega, .nil, by rw [List.take_zero]; exact ORows.nil, Fresh.nil _, ht17, ht27, ht7, Turns.refl _ _, by simp only [n_put, hn], by simp only [get_put, ↓reduceIte, Nat.reduceEqDiff], by simp only [get_put, ↓reduceIte, Nat.reduceEqDiff], by simp only [get_put, ↓reduceIte, Nat.reduceEqDiff], by simp only [get_put, ↓reduceIte, Nat.reduceEqDiff], by simp only [get_put, ↓reduceIte, Nat.reduceEqDiff], by simp only [get_put, ↓reduceIte, Nat.reduceEqDiff], by simp only [get_put, ↓reduceIte]; rfl⟩ ?_ ?_
  · clear hn h0 f ht6 hot6 hm5 hD5 hself5 hl5 hk5 htq hDq htq4 hDq4 hlow hln7 ht17 ht27 ht7
    rintro Q hQ z f t ⟨i, y, IC, rfl, hi, hy, hR, hyF, hb1, hb2, hb4, htu, hn, h1, h2, h3, h4, h24, h25, h26⟩
    have hnt := htu.next
    have hst : Stay s3.next s7 t := ⟨htu.next, fun j hj => htu.get j (by omega) (fun e => by
      have e : some s3.next = some j := e
      injection e with e; omega)⟩
    have hs3t : Stay s3.next s3 t := k37.trans hst
    have hWt := hW.keeps hs3t
    have hDt := hD3.keeps hs3t
    by_cases hlt : i < r.length
    rotate_left
    · obtain rfl : i = r.length := by omega
      rw [List.take_of_length_le (by rw [numI_length]; exact Nat.le_refl _)] at hR
      have d1 : ¬ ((r.length : Nat) : Int) < ((r.length : Nat) : Int) := by omega
      simp (config := { maxSteps := 1000000, implicitDefEqProofs := false }) (disch := omega) only [allW, Nat.reduceLT, ↓reduceIte, hn, h25, h26, eq_false d1]
      exact hQ _ _ _ ⟨rfl, y, IC, hy, hR, hyF, hb2, hb4, htu, by simp only [n_put, hn], by simp only [get_put, ↓reduceIte, Nat.reduceEqDiff, h2], by simp only [get_put, ↓reduceIte, Nat.reduceEqDiff, h4]⟩
    have d1 : (i : Int) < (r.length : Int) := by omega
    have hix := hWt.list.sees.indexAddr (P := Try.prog) (k := .i64) (x := (i : Int)) Try.underlying32 szInt (by omega) (by omega)
    rw [Int.toNat_natCast] at hix
    have hli := hWt.list.sees.load1 (P := Try.prog) agInt hlt
    rw [intsV_getD hlt] at hli
    simp (config := { maxSteps := 1000000, implicitDefEqProofs := false }) (disch := omega) only [allW, Nat.reduceLT, Nat.reduceEqDiff, ↓reduceIte, hn, h24, h25, h26, eq_true d1, hix, hli]
    obtain ⟨j, hj, hsk, hfd⟩ := hA.some (hall.there _ (List.getElem_mem hlt))
    obtain ⟨A, hAe⟩ : ∃ A : Nat → Bool, A = fun j => decide (j < t.next) := ⟨_, rfl⟩
    have hAl : ∀ j, A j = true → j < t.next := by
      intro j h
      rw [hAe] at h
      exact of_decide_eq_true h
    have hAo : ∀ j, j < t.next → A j = true := fun j h => by rw [hAe]; exact decide_eq_true h
    refine LB.Drawn.looseK A hAl 1 1 (by kernel_rfl) (by kernel_rfl) ?_
    have hsp := Stay.spare t 1
    have hnT : (spare t 1).next = t.next + 1 := spare_next _ _
    have hlow1 : ∀ k, LA.lowV A (some (.pointer (some ⟨s.next, k, some 10⟩))) = true := fun k => LA.lowV_ptr (A := A) (i := s.next) (hAo _ hb1.lt)
    have hlow4 : ∀ k, LA.lowV A (some (.pointer (some ⟨s3.next, k, some 10⟩))) = true := fun k => LA.lowV_ptr (A := A) (i := s3.next) (hAo _ hb4.lt)
    have hloww : ∀ k, LA.lowV A (some (.pointer (some ⟨w, k, some 13⟩))) = true := fun k => LA.lowV_ptr (A := A) (i := w) (hAo _ hWt.thing.lt)
    have hb1q := hb1.keeps hsp
    have hb4q := hb4.keeps hsp
    have hWq := hWt.keeps hsp
    have hDq := hDt.keeps hsp
    have hlk := hWq.at_.get uMpJ uInt zInt plInt r[i]
    rw [hsk] at hlk
    simp only [Option.getD_some] at hlk
    have hIq := hDq.items
    have hjx := hIq.indexAddr (P := Try.prog) (k := .i64) (x := (j : Int)) Try.underlying27 szI (by omega) (by omega)
    rw [Int.toNat_natCast] at hjx
    obtain ⟨q0, q1⟩ := efI hIq hj
    obtain ⟨b1, b2, b3, -⟩ := itemB (hDq.rows.row j hj)
    have hlv := hIq.loadPart (P := Try.prog) agO szO hj (j := 1) (by omega)
    simp (config := { maxSteps := 1000000, implicitDefEqProofs := false }) (disch := omega) only [allW, allR, allL, allB, Nat.sub_self, evalAll, partsA, Nat.reduceLT, Nat.reduceEqDiff, ↓reduceIte, hn, h1, h3, h4, df4, wf1, hlow1, hlow4, hloww, db_items hb1q htl, db_items hb4q htl', wk_at hWq.thing htl, hlk, quiet_lookup, valEq_mapV, hIq.self, hy.self, hjx, q1, hlv, b3.self, valEq_plus, LA.lowV_plus hDt.items hAo hj, wrapI]
    have hso : Small D.items[j].2 := hs.items _ (List.getElem_mem hj)
    have hwq : MetIs (spare t 1) w r := hwm.keeps (hs3t.trans (hsp.weaken (by omega)))
    refine (renamed_any hrn hln hlr hlb hlc hall.once w _ D.items[j].2 (Nat.le_refl _) _ (spare t 1) _ hwq b3 hso).mono ?_
    rintro _ t2 ⟨cs, rfl, ho2, kst2⟩
    have m2 := kst2.next
    have hcl := ho2.len
    refine ⟨fun _ => LA.Stay.toA hAl (kst2.weaken (by omega)), ?_⟩
    obtain ⟨es, hes⟩ : ∃ es, es = Value.int .i64 ((i : Int) + 1) :: cs := ⟨_, rfl⟩
    have hel : es.length = 6 := by rw [hes]; simp [hcl]
    have hesok : es.all okCell = true := by rw [hes, List.all_cons, ho2.ok]; rfl
    have hself6 : valEq (.agg es.toArray) (.agg es.toArray) = true := by rw [hes]; exact item_self _ ho2.self
    have hbI := bItem ((i : Int) + 1) hcl
    rw [← hes] at hbI
    simp (config := { maxSteps := 1000000, implicitDefEqProofs := false }) (disch := omega) only [allW, allB, partsA, Nat.reduceLT, ↓reduceIte, hn, hbI, hself6, buildAgg1 (cs := es.toArray) Try.underlying27 szI zI plI rfl hel (by decide)]
    refine LB.smake_newSlice (base := t.next) hel (by omega) (Nat.le_refl _) ?_
    intro bs t3 hbs hid kst3 hnx3 hot3
    have kt3 : Stay t.next t t3 := (hsp.trans (kst2.weaken (by omega))).trans kst3
    have m3 := kt3.next
    have hi3 : ItIs (FF y) t3 es (((i + 1 : Nat) : Int), renO r (findD D.items r[i]).1) := by
      refine ⟨cs, by rw [hes]; rfl, ?_⟩
      rw [hfd]
      refine (ho2.turns (u := .pointer (some ⟨t.next, 0, none⟩)) (Turns.ofPut hnx3 hot3) (fun j hj e => ?_)).mono (fun j hj => ?_)
      · have e : some t.next = some j := e
        injection e with e; omega
      · rw [hFF]; exact ⟨by omega, fun h => h, fun e => by have := hy.idlt _ e; omega⟩
    simp (config := { maxSteps := 1000000, implicitDefEqProofs := false }) (disch := omega) only [allW, allB, evalAll, Nat.reduceLT, Nat.reduceEqDiff, ↓reduceIte, hn]
    refine LB.sstep_append Try.underlying27 Try.underlying27 (.inl ⟨_, rfl⟩) szI byI zI rfl (hy.keeps kt3) hbs.sees.src hel (by decide) hesok (by omega) (by omega) (base := s7.next) hyF (by omega) (fun h => absurd rfl h) (fun j hj => by have := hAl j hj; omega) ?_
    intro y' t4 hy4 hF4 hut4 hor
    have m4 := hut4.next
    have hR3 := hR.keeps rowedI kt3
    rw [hFF] at hR3 hi3
    have hR4 := hR3.grow rowedI hel hi3 hut4 hor
    rw [show (fun j => s7.next ≤ j ∧ ¬ (fun _ => False) j ∧ idOf y' ≠ some j) = FF y' by rw [hFF]] at hR4
    have hyl : ∀ j, idOf y = some j → s7.next ≤ j := hyF
    have hy4p : idOf y' ≠ some s3.next := fun e => by have := hF4 _ e; omega
    have hyp : idOf y ≠ some s3.next := fun e => by have := hyl _ e; omega
    simp (config := { maxSteps := 1000000, implicitDefEqProofs := false }) (disch := omega) only [allW, allL, allB, Nat.reduceSub, Nat.reduceLT, Nat.reduceEqDiff, ↓reduceIte, hn, h4, df4]
    refine LB.sstep_storeN szIs (by decide) ((hb4.keeps kt3).turns hut4 hyp) (off := 8) (c := 10) (by rw [db_len htl']) (vs := [y']) hy4.sees.cell1 rfl (by rw [db_len htl']; exact Nat.le_refl _) (by simp [hy4.sees.okCell]) (fun h => absurd rfl h) ?_
    intro t5 ht5 hnx5 hot5
    rw [dc_over htl'] at ht5
    have hu5 : Turns (.pointer (some ⟨s3.next, 0, none⟩)) t4 t5 := Turns.ofPut hnx5 hot5
    have hne5 : ∀ j, FF y' j → idOf (.pointer (some ⟨s3.next, 0, none⟩)) ≠ some j := fun j hj e => by
      have e : some s3.next = some j := e
      injection e with e
      rw [hFF] at hj; have := hj.1; omega
    simp (config := { maxSteps := 1000000, implicitDefEqProofs := false }) (disch := omega) only [allW, allB, Nat.reduceSub, Nat.reduceLT, Nat.reduceEqDiff, ↓reduceIte, allW, Nat.reduceLT, Nat.reduceEqDiff, ↓reduceIte, hn, h26, wrapI]
    refine wround_next (r.length - (i + 1)) (by omega) ⟨i + 1, y', IC ++ es, rfl, by omega, hy4.ofPut hnx5 hot5 hy4p, ?_, hF4, ((hb1.keeps kt3).turns hut4 (fun e => by have := hyl _ e; omega)).ofPut hnx5 hot5 (by omega), ((hb2.keeps kt3).turns hut4 (fun e => by have := hyl _ e; omega)).ofPut hnx5 hot5 (by omega), ht5, ?_, by simp only [n_put, hn], by simp only [get_put, ↓reduceIte, Nat.reduceEqDiff, h1], by simp only [get_put, ↓reduceIte, Nat.reduceEqDiff, h2], by simp only [get_put, ↓reduceIte, Nat.reduceEqDiff, h3], by simp only [get_put, ↓reduceIte, Nat.reduceEqDiff, h4], by simp only [get_put, ↓reduceIte, Nat.reduceEqDiff, h24], by simp only [get_put, ↓reduceIte, Nat.reduceEqDiff, h25], by simp only [get_put, ↓reduceIte]; rfl⟩
    · rw [numI_take hlt]
      exact hR4.turns rowedI hu5 hne5
    · exact ⟨by omega, fun q hq hne => by rw [hot5 q (fun e => hne (by rw [e]; rfl)), hut4.get q (by omega) (fun e => by have := hyl _ e; omega), kt3.get q (by omega), htu.get q hq hne]⟩
  clear hn h0 f ht6 hot6 hm5 hD5 hself5 hl5 hk5 htq hDq htq4 hDq4 hlow hln7 ht17 ht27 ht7
  rintro z f t ⟨rfl, y, IC, hy, hR, hyF, hb2, hb4, htu, hn, h2, h4⟩
  have hnt := htu.next
  have hst : Stay s3.next s7 t := ⟨htu.next, fun j hj => htu.get j (by omega) (fun e => by
    have e : some s3.next = some j := e
    injection e with e; omega)⟩
  have hns : ∀ j, s3.next + 1 ≤ j ∧ j < s7.next → idOf (.pointer (some ⟨s3.next, 0, none⟩)) ≠ some j := fun j hj e => by
    have e : some s3.next = some j := e
    injection e with e; omega
  have hmt : Own t 1 mv' D.mark.length (ofBytes D.mark) := hm7.turns htu (fun j hj => hns j (hmi j hj))
  have hot := ho7.turns htu hns
  have hDt : DocIs (fun j => s3.next + 1 ≤ j ∧ (j < s7.next ∨ idOf y = some j ∨ FF y j)) t mv' tc' y IC (numD D r) :=
    ⟨hmt.sees, Foot.of_id (fun j hj => ⟨(hmi j hj).1, .inl (hmi j hj).2⟩), hot.mono (fun j hj => ⟨hj.1, .inl hj.2⟩), by
      show Sees t 6 y (numI D.items r).length IC
      rw [numI_length]; exact hy.sees, Foot.of_id (fun j hj => ⟨by have := hyF j hj; omega, .inr (.inl hj)⟩), hR.mono rowedI (fun j hj => ⟨by rw [hFF] at hj; have := hj.1; omega, .inr (.inr hj)⟩)⟩
  have hDl := docC_len hDt
  have hDk := docC_ok hDt
  simp (config := { maxSteps := 1000000, implicitDefEqProofs := false }) (disch := omega) only [allW, Nat.reduceLT, Nat.reduceEqDiff, ↓reduceIte, hn, h2, h4, db_all hb4 htl']
  refine wstep_storeAll szD (by decide) hb2 rfl rfl hDl hDk ?_
  intro t2 ht2' hnx2' hot2'
  have ht2' : Thing t2 s1.next (docC D mv' tc' y) := ht2'
  simp (config := { maxSteps := 1000000, implicitDefEqProofs := false }) (disch := omega) only [allW, wfn_ret, oneOf, Nat.reduceLT, Nat.reduceEqDiff, ↓reduceIte, hn, h2, db_all ht2' htl', resultsA_cell, Try.results14]
  have hu2 : Turns (.pointer (some ⟨s1.next, 0, none⟩)) t t2 := Turns.ofPut hnx2' hot2'
  exact ⟨mv', tc', y, IC, rfl, (hDt.turns hu2 (fun j hj e => by
    have e : some s1.next = some j := e
    injection e with e; have := hj.1; omega)).mono (fun j hj => by have := hj.1; omega), (hs3.trans (k37.weaken (by omega))).trans ⟨by omega, fun j hj => by rw [hot2' j (by omega), hst.get j (by omega)]⟩⟩
set_option maxHeartbeats 8000000 in
theorem rnumber_any {lib : Prims} (hl : lib.at 15 = none) (hre : lib.at 26 = none) (hlf : lib.at 19 = none) (hlrf : lib.at 11 = none)
    (hrn : lib.at 45 = none) (hlr : lib.at 31 = none) (hlb : lib.at 44 = none) (hlc : lib.at 53 = none)
    (F : Nat → Prop) (s : ASt) (D : Dc) (mv : Value) (tc : List Value) (iv : Value) (ic : List Value) (hD : DocIs F s mv tc iv ic D) (hs : SmallD D) (k : Nat) (r : List Int) (hk : WalksN D.items k (refsO D.trailer) [] r) (hk0 : k ≤ 10000000) :
    Runs Try.prog lib 15 [.agg (docC D mv tc iv).toArray] s (NewD s (numD D r)) := by
  have htl := hD.trailer.len
  have dl := db_len (D := D) (mv := mv) (iv := iv) htl
  have hmk := hs.mark
  obtain ⟨hall, -⟩ := walks_from hk
  have hrl := hk.size.2
  rw [List.length_nil, Nat.zero_add] at hrl
  refine Runs.enter 65 Try.func15 rfl hl rfl rfl ?_
  intro f hn hf
  have h0 : f.get 0 = .agg (docC D mv tc iv).toArray := hf 0
  clear hf
  simp (config := { maxSteps := 1000000, implicitDefEqProofs := false }) (disch := omega) only [allW, Nat.reduceLT, ↓reduceIte, hn, h0]
  refine wstep_newPtr ?_
  intro s1 ht1 hst1 hnx1
  have ht1 : Thing s1 s.next (docC D mv tc iv) := ht1
  simp (config := { maxSteps := 1000000, implicitDefEqProofs := false }) (disch := omega) only [allW, Nat.reduceLT, Nat.reduceAdd, ↓reduceIte, hn, dl, zD, plD]
  refine wstep_newPtr ?_
  intro s2 ht2 hst2 hnx2
  have hd10 : noneD.length + 1 = 10 := rfl
  have n1 := hst1.next
  have n2 := hst2.next
  have hs2 : Stay s.next s s2 := hst1.trans (hst2.weaken n1)
  have ht12 := ht1.keeps hst2
  simp (config := { maxSteps := 1000000, implicitDefEqProofs := false }) (disch := omega) only [allW, allR, evalAll, Nat.reduceLT, Nat.reduceEqDiff, ↓reduceIte, hn, hd10, db_all ht12 htl]
  refine (rreach_any hre hlf hlrf (fun j => F j ∧ j < s.next) s2 D mv tc iv ic (hD.lows.keeps hs2) hs k r hk hk0).mono ?_
  rintro lv s3 ⟨hlv, hlF, hst3⟩
  have n3 := hst3.next
  have hs3 : Stay s.next s s3 := hs2.trans (hst3.weaken (by omega))
  simp (config := { maxSteps := 1000000, implicitDefEqProofs := false }) (disch := omega) only [allW, Nat.reduceLT, ↓reduceIte, hn]
  obtain ⟨s4, e4, hm4, hst4, hnx4⟩ := newMapJ s3
  rw [e4]
  have n4 := hst4.next
  refine Comes.loopOut (fun z f t => ∃ (i : Nat) (TM : List (Int × Value)), z = r.length - i ∧ i ≤ r.length ∧ MapJ t s3.next TM ∧ MetTo (r.take i) TM ∧ Stay s3.next s3 t ∧ f.n = 65 ∧ f.get 1 = .pointer (some ⟨s.next, 0, some 10⟩) ∧ f.get 2 = .pointer (some ⟨s1.next, 0, some 10⟩) ∧ f.get 3 = lv ∧ f.get 4 = .map (some s3.next) ∧ f.get 5 = .int .i64 (i : Nat))
    (fun z f t => z = .exit 0 ∧ ∃ (TM : List (Int × Value)), MapJ t s3.next TM ∧ MetTo r TM ∧ Stay s3.next s3 t ∧ f.n = 65 ∧ f.get 1 = .pointer (some ⟨s.next, 0, some 10⟩) ∧ f.get 2 = .pointer (some ⟨s1.next, 0, some 10⟩) ∧ f.get 3 = lv ∧ f.get 4 = .map (some s3.next))
    ⟨0, [], rfl, by omega, hm4, MetTo.start, hst4, by simp only [n_put, hn], by simp only [get_put, ↓reduceIte, Nat.reduceEqDiff], by simp only [get_put, ↓reduceIte, Nat.reduceEqDiff], by simp only [get_put, ↓reduceIte, Nat.reduceEqDiff], by simp only [get_put, ↓reduceIte, Nat.reduceEqDiff], by simp only [get_put, ↓reduceIte]; rfl⟩ ?_ ?_
  · clear hn h0 f hm4
    rintro Q hQ z f t ⟨i, TM, rfl, hi, hMt, hMe, hst, hn, h1, h2, h3, h4, h5⟩
    have hnt := hst.next
    have hlt0 := hlv.keeps hst
    by_cases hlt : i < r.length
    rotate_left
    · obtain rfl : i = r.length := by omega
      rw [List.take_length] at hMe
      have d1 : ¬ ((r.length : Nat) : Int) < ((r.length : Nat) : Int) := by omega
      simp (config := { maxSteps := 1000000, implicitDefEqProofs := false }) (disch := omega) only [allW, evalAll, Nat.reduceLT, Nat.reduceEqDiff, ↓reduceIte, hn, h3, h5, hlt0.sees.lenA Try.underlying32, eq_false d1]
      exact hQ _ _ _ ⟨rfl, TM, hMt, hMe, hst, by simp only [n_put, hn], by simp only [get_put, ↓reduceIte, Nat.reduceEqDiff, h1], by simp only [get_put, ↓reduceIte, Nat.reduceEqDiff, h2], by simp only [get_put, ↓reduceIte, Nat.reduceEqDiff, h3], by simp only [get_put, ↓reduceIte, Nat.reduceEqDiff, h4]⟩
    have d1 : (i : Int) < (r.length : Int) := by omega
    have hix := hlt0.sees.indexAddr (P := Try.prog) (k := .i64) (x := (i : Int)) Try.underlying32 szInt (by omega) (by omega)
    rw [Int.toNat_natCast] at hix
    have hli := hlt0.sees.load1 (P := Try.prog) agInt hlt
    rw [intsV_getD hlt] at hli
    simp (config := { maxSteps := 1000000, implicitDefEqProofs := false }) (disch := omega) only [allW, evalAll, Nat.reduceLT, Nat.reduceEqDiff, ↓reduceIte, hn, h3, h4, h5, hlt0.sees.lenA Try.underlying32, eq_true d1, hix, hli, wrapI]
    refine wstep_mapUpdateJ uMpJ uInt hMt r[i] (.int .i64 ((i : Int) + 1)) ?_
    intro t2 hM2 hn2' ho2'
    have hMe2 := hMe.snoc r[i]
    rw [List.length_take, Nat.min_eq_left hi, ← takeS hlt] at hMe2
    simp (config := { maxSteps := 1000000, implicitDefEqProofs := false }) (disch := omega) only [allW, Nat.reduceLT, Nat.reduceEqDiff, ↓reduceIte, hn, h5, wrapI]
    exact wround_next (r.length - (i + 1)) (by omega) ⟨i + 1, _, rfl, by omega, hM2, hMe2, hst.trans ⟨by omega, fun j hj => ho2' j (by omega)⟩, by simp only [n_put, hn], by simp only [get_put, ↓reduceIte, Nat.reduceEqDiff, h1], by simp only [get_put, ↓reduceIte, Nat.reduceEqDiff, h2], by simp only [get_put, ↓reduceIte, Nat.reduceEqDiff, h3], by simp only [get_put, ↓reduceIte, Nat.reduceEqDiff, h4], by simp only [get_put, ↓reduceIte]; rfl⟩
  clear hn h0 f hm4 e4 hst4 hnx4 n4
  clear s4
  rintro z f s4 ⟨rfl, TM, hMm, hMT, hst4, hn, h1, h2, h3, h4⟩
  have n4 := hst4.next
  have hs4 : Stay s.next s s4 := hs3.trans (hst4.weaken (by omega))
  have ht14 := ht12.keeps (hst3.trans (hst4.weaken n3))
  have ht24 := ht2.keeps (hst3.trans (hst4.weaken n3))
  have hlv4 := hlv.keeps hst4
  have hD4 := hD.lows.keeps hs4
  simp (config := { maxSteps := 1000000, implicitDefEqProofs := false }) (disch := omega) only [allW, ↓reduceIte]
  obtain ⟨A, hAe⟩ : ∃ A : Nat → Bool, A = fun j => decide (j < s4.next) := ⟨_, rfl⟩
  have hAl : ∀ j, A j = true → j < s4.next := by
    intro j h
    rw [hAe] at h
    exact of_decide_eq_true h
  have hAo : ∀ j, j < s4.next → A j = true := fun j h => by rw [hAe]; exact decide_eq_true h
  refine LB.Drawn.looseK A hAl 2 1 (by kernel_rfl) (by kernel_rfl) ?_
  have hsp := Stay.spare s4 1
  have hnT : (spare s4 1).next = s4.next + 1 := spare_next _ _
  have htq := ht14.keeps hsp
  have hDq := hD4.keeps hsp
  have hlow : ∀ k, LA.lowV A (some (.pointer (some ⟨s.next, k, some 10⟩))) = true := fun k => LA.lowV_ptr (A := A) (i := s.next) (hAo _ ht14.lt)
  simp (config := { maxSteps := 1000000, implicitDefEqProofs := false }) (disch := omega) only [allW, allR, allL, allB, Nat.add_one_sub_one, evalAll, Nat.reduceLT, Nat.reduceEqDiff, ↓reduceIte, hn, h1, df0, df1, df2, hlow, db_minor htq htl, db_mark htq htl, hDq.mark.self]
  refine (copy_any hlb (spare s4 1) mv D.mark hDq.mark (by omega)).mono ?_
  rintro mv' s5 ⟨hmo, hmF, hst5⟩
  have n5 := hst5.next
  have htq5 := htq.keeps hst5
  have hDq5 := hDq.keeps hst5
  refine ⟨fun _ => LA.Stay.toA hAl (hst5.weaken (by omega)), ?_⟩
  have k45 : Stay s4.next s4 s5 := hsp.trans (hst5.weaken (by omega))
  simp (config := { maxSteps := 1000000, implicitDefEqProofs := false }) (disch := omega) only [allW, allR, allL, allB, Nat.sub_self, evalAll, partsA, Nat.reduceLT, Nat.reduceEqDiff, ↓reduceIte, hn, h1, h4, df3, hlow, db_tail htq5 htl, db_trailer htq5 htl, hDq5.trailer.self, valEq_mapV]
  refine (rename_any hrn hlr hlb hlc hall.once s3.next TM hMT _ D.trailer (Nat.le_refl _) _ s5 tc (hMm.keeps k45) hDq5.trailer hs.trailer).mono ?_
  rintro _ s6 ⟨tc', rfl, ho6, hst6⟩
  have n6 := hst6.next
  have htl' := ho6.len
  refine ⟨fun _ => LA.Stay.toA hAl (hst6.weaken (by omega)), ?_⟩
  obtain ⟨ma, ml, mb, rfl⟩ := hmo.slice
  have hm6 := hmo.keeps hst6
  have hD6 : DocIs (fun _ => True) s6 (.slice ma ml mb) tc' (.slice none 0 0) [] ⟨D.minor, D.mark, D.tail, renO r D.trailer, []⟩ := ⟨hm6.sees, Foot.of_id (fun _ _ => trivial), ho6.mono (fun _ _ => trivial), .nil, Foot.of_id (fun _ _ => trivial), ORows.nil⟩
  have hself6 := hD6.self
  have hl6 := docC_len hD6
  have hk6 := docC_ok hD6
  have hbd : buildA Try.prog 29 [(0, .int .i64 D.minor), (1, .slice ma ml mb), (2, .int .i64 D.tail), (3, .agg tc'.toArray)] = some (.agg (docC D (.slice ma ml mb) tc' (.slice none 0 0)).toArray) := bDoc4 D.minor D.tail ma ml mb htl'
  have hself6 : valEq (.agg (docC D (.slice ma ml mb) tc' (.slice none 0 0)).toArray) (.agg (docC D (.slice ma ml mb) tc' (.slice none 0 0)).toArray) = true := hself6
  have hl6 : (docC D (.slice ma ml mb) tc' (.slice none 0 0)).length = 9 := hl6
  have hk6 : (docC D (.slice ma ml mb) tc' (.slice none 0 0)).all okCell = true := hk6
  obtain ⟨mv', hmv⟩ : ∃ mv' : Value, mv' = .slice ma ml mb := ⟨_, rfl⟩
  simp (config := { maxSteps := 1000000, implicitDefEqProofs := false }) (disch := omega) only [allW, allB, Nat.reduceLT, ↓reduceIte, hn, hbd, hself6, zD, plD]
  clear hbd
  rw [← hmv] at hself6 hl6 hk6 hm6 hD6 hmF hmo ⊢
  refine LB.smake_newPtr (by omega) ?_
  intro s6' ht6 hnx6 hot6
  simp (config := { maxSteps := 1000000, implicitDefEqProofs := false }) (disch := omega) only [allW, allB, Nat.reduceLT, Nat.reduceEqDiff, ↓reduceIte, hn, hd10]
  refine LB.sstep_storeAll szD (by decide) ht6 rfl rfl (by simpa using hl6) hk6 (fun h => absurd rfl h) ?_
  intro s7 ht7 hnx7 hot7
  have ht7 : Thing s7 s4.next (docC D mv' tc' (.slice none 0 0)) := ht7
  have k47 : Stay s4.next s4 s7 := ((k45.trans (hst6.weaken (by omega))).trans ⟨by omega, fun j hj => hot6 j (by omega)⟩).trans ⟨by omega, fun j hj => hot7 j (by omega)⟩
  have m7 := k47.next
  have hm7 : Own s7 1 mv' D.mark.length (ofBytes D.mark) := (hm6.ofPut hnx6 hot6 (fun e => by have := hmF _ e; omega)).ofPut hnx7 hot7 (fun e => by have := hmF _ e; omega)
  have ho7 : OIs (fun j => s4.next + 1 ≤ j ∧ j < s7.next) s7 tc' (renO r D.trailer) := by
    have := ((ho6.ofPut hnx6 hot6 (by omega)).ofPut hnx7 hot7 (by omega)).lows
    exact this.mono (fun j hj => ⟨by have := hj.1; omega, hj.2⟩)
  have hmi : ∀ j, idOf mv' = some j → s4.next + 1 ≤ j ∧ j < s7.next := fun j hj => ⟨by have := hmF j hj; omega, hm7.idlt j hj⟩
  simp (config := { maxSteps := 1000000, implicitDefEqProofs := false }) (disch := omega) only [allW, allB, Nat.reduceSub, Nat.reduceLT, ↓reduceIte, allW, Nat.reduceLT, ↓reduceIte, hn]
  have ht27 := ht24.keeps k47
  have ht17 := ht14.keeps k47
  have hp7 : s4.next < s7.next := ht7.lt
  obtain ⟨FF, hFF⟩ : ∃ FF : Value → Nat → Prop, FF = fun v j => s7.next ≤ j ∧ ¬ (fun _ => False) j ∧ idOf v ≠ some j := ⟨_, rfl⟩
  refine Comes.loopOut (fun z f t => ∃ (i : Nat) (y : Value) (IC : List Value), z = r.length - i ∧ i ≤ r.length ∧ Own t 6 y i IC ∧ ORows ItIs 6 (FF y) t ((numI D.items r).take i) IC ∧ Fresh s7.next y ∧ Thing t s.next (docC D mv tc iv) ∧ Thing t s1.next noneD ∧ Thing t s4.next (docC D mv' tc' y) ∧ Turns (.pointer (some ⟨s4.next, 0, none⟩)) s7 t ∧ f.n = 65 ∧ f.get 1 = .pointer (some ⟨s.next, 0, some 10⟩) ∧ f.get 2 = .pointer (some ⟨s1.next, 0, some 10⟩) ∧ f.get 3 = lv ∧ f.get 4 = .map (some s3.next) ∧ f.get 6 = .pointer (some ⟨s4.next, 0, some 10⟩) ∧ f.get 7 = .int .i64 (i : Nat))
    (fun z f t => z = .exit 2 ∧ ∃ (y : Value) (IC : List Value), Own t 6 y r.length IC ∧ ORows ItIs 6 (FF y) t (numI D.items r) IC ∧ Fresh s7.next y ∧ Thing t s1.next noneD ∧ Thing t s4.next (docC D mv' tc' y) ∧ Turns (.pointer (some ⟨s4.next, 0, none⟩)) s7 t ∧ f.n = 65 ∧ f.get 2 = .pointer (some ⟨s1.next, 0, some 10⟩) ∧ f.get 6 = .pointer (some ⟨s4.next, 0, some 10⟩))
    ⟨0, .slice none 0 0, [], rfl, by omega, .nil, by rw [List.take_zero]; exact ORows.nil, Fresh.nil _, ht17, ht27, ht7, Turns.refl _ _, by simp only [n_put, hn], by simp only [get_put, ↓reduceIte, Nat.reduceEqDiff, h1], by simp only [get_put, ↓reduceIte, Nat.reduceEqDiff, h2], by simp only [get_put, ↓reduceIte, Nat.reduceEqDiff, h3], by simp only [get_put, ↓reduceIte, Nat.reduceEqDiff, h4], by simp only [get_put, ↓reduceIte, Nat.reduceEqDiff], by simp only [get_put, ↓reduceIte]; rfl⟩ ?_ ?_
  · clear hn h1 h2 h3 h4 f ht6 hot6 hm6 hD6 hself6 hl6 hk6 htq hDq htq5 hDq5 hlow ht17 ht27 ht7
    rintro Q hQ z f t ⟨i, y, IC, rfl, hi, hy, hR, hyF, hb1, hb2, hb4, htu, hn, h1, h2, h3, h4, h6, h7⟩
    have hnt := htu.next
    have hst : Stay s4.next s7 t := ⟨htu.next, fun j hj => htu.get j (by omega) (fun e => by
      have e : some s4.next = some j := e
      injection e with e; omega)⟩
    have hs4t : Stay s4.next s4 t := k47.trans hst
    have hlt0 := hlv4.keeps hs4t
    have hDt := hD4.keeps hs4t
    have hMt := hMm.keeps hs4t
    by_cases hlt : i < r.length
    rotate_left
    · obtain rfl : i = r.length := by omega
      rw [List.take_of_length_le (by rw [numI_length]; exact Nat.le_refl _)] at hR
      have d1 : ¬ ((r.length : Nat) : Int) < ((r.length : Nat) : Int) := by omega
      simp (config := { maxSteps := 1000000, implicitDefEqProofs := false }) (disch := omega) only [allW, evalAll, Nat.reduceLT, Nat.reduceEqDiff, ↓reduceIte, hn, h3, h7, hlt0.sees.lenA Try.underlying32, eq_false d1]
      exact hQ _ _ _ ⟨rfl, y, IC, hy, hR, hyF, hb2, hb4, htu, by simp only [n_put, hn], by simp only [get_put, ↓reduceIte, Nat.reduceEqDiff, h2], by simp only [get_put, ↓reduceIte, Nat.reduceEqDiff, h6]⟩
    have d1 : (i : Int) < (r.length : Int) := by omega
    simp (config := { maxSteps := 1000000, implicitDefEqProofs := false }) (disch := omega) only [allW, evalAll, Nat.reduceLT, Nat.reduceEqDiff, ↓reduceIte, hn, h3, h7, hlt0.sees.lenA Try.underlying32, eq_true d1]
    obtain ⟨A, hAe⟩ : ∃ A : Nat → Bool, A = fun j => decide (j < t.next) := ⟨_, rfl⟩
    have hAl : ∀ j, A j = true → j < t.next := by
      intro j h
      rw [hAe] at h
      exact of_decide_eq_true h
    have hAo : ∀ j, j < t.next → A j = true := fun j h => by rw [hAe]; exact decide_eq_true h
    refine LB.Drawn.looseK A hAl 0 1 (by kernel_rfl) (by kernel_rfl) ?_
    have hsp := Stay.spare t 1
    have hnT : (spare t 1).next = t.next + 1 := spare_next _ _
    have hlow1 : ∀ k, LA.lowV A (some (.pointer (some ⟨s.next, k, some 10⟩))) = true := fun k => LA.lowV_ptr (A := A) (i := s.next) (hAo _ hb1.lt)
    have hb1q := hb1.keeps hsp
    have hDq := hDt.keeps hsp
    have hlq := hlt0.keeps hsp
    have hix := hlq.sees.indexAddr (P := Try.prog) (k := .i64) (x := (i : Int)) Try.underlying32 szInt (by omega) (by omega)
    rw [Int.toNat_natCast] at hix
    have hli := hlq.sees.load1 (P := Try.prog) agInt hlt
    rw [intsV_getD hlt] at hli
    have lE := fun k => LA.lowV_elemOld hlt0.sees hAo (k := k)
    simp (config := { maxSteps := 1000000, implicitDefEqProofs := false }) (disch := omega) only [allW, allR, allL, allB, Nat.reduceSub, evalAll, Nat.reduceLT, Nat.reduceEqDiff, ↓reduceIte, hn, h1, h3, h7, hlow1, db_all hb1q htl, hDq.self, hlq.self, hix, hli, lE]
    obtain ⟨o, hfo⟩ : ∃ o, findD D.items r[i] = (o, true) := ⟨_, Prod.ext rfl (hall.there _ (List.getElem_mem hlt))⟩
    have hso : Small o := by
      obtain ⟨e, he, -, h2⟩ := findD_mem (D := D.items) (n := r[i]) (by rw [hfo])
      rw [hfo] at h2
      have h2 : o = e.2 := h2
      rw [h2]; exact hs.items e he
    have hfa := rfind_any (lib := lib) hlf _ (spare t 1) D mv tc iv ic hDq hs r[i]
    rw [hfo] at hfa
    refine hfa.mono ?_
    rintro _ t2 ⟨cs2, rfl, ho2, kst2⟩
    have m2 := kst2.next
    have hcl2 := ho2.len
    have wB : ∀ b, valEq (.bool b) (.bool b) = true := fun b => by cases b <;> rfl
    refine ⟨fun h => h.elim, ?_⟩
    simp (config := { maxSteps := 1000000, implicitDefEqProofs := false }) (disch := omega) only [allW, allL, allB, Nat.reduceLT, Nat.reduceEqDiff, ↓reduceIte, hn, ext0, ext1, valEq_found ho2.self, ho2.self, wB, zO, plO]
    refine LB.smake_newPtr (by omega) ?_
    intro t3 ht3' nt3 et3
    have hd6 : noneC.length + 1 = 6 := rfl
    simp (config := { maxSteps := 1000000, implicitDefEqProofs := false }) (disch := omega) only [allW, allB, Nat.reduceLT, Nat.reduceEqDiff, ↓reduceIte, hn, hd6]
    refine LB.sstep_storeAll szO (by decide) ht3' rfl rfl (by simpa using hcl2) ho2.ok (fun h => absurd rfl h) ?_
    intro t4 ht4' nt4 et4
    have ht4' : Thing t4 t.next cs2 := ht4'
    have k04 : Stay t.next t t4 := (hsp.trans (kst2.weaken (by omega))).trans ⟨by omega, fun j hj => by rw [et4 j (by omega), et3 j (by omega)]⟩
    have m4 := k04.next
    have m04 := hs4.next
    have ho4 := (ho2.ofPut nt3 et3 (fun h => by have := h.2; omega)).ofPut nt4 et4 (fun h => by have := h.2; omega)
    simp (config := { maxSteps := 1000000, implicitDefEqProofs := false }) (disch := omega) only [allW, allL, allB, Nat.reduceSub, Nat.reduceLT, Nat.reduceEqDiff, ↓reduceIte, allW, Nat.reduceLT, Nat.reduceEqDiff, ↓reduceIte, hn]
    have hy5 := hy.keeps k04
    have hR5 := hR.keeps rowedI k04
    have hb4' := hb4.keeps k04
    obtain ⟨C, hCe⟩ : ∃ C : Nat → Bool, C = fun j => decide (j < t4.next) := ⟨_, rfl⟩
    have hCl : ∀ j, C j = true → j < t4.next := by
      intro j h
      rw [hCe] at h
      exact of_decide_eq_true h
    have hCo : ∀ j, j < t4.next → C j = true := fun j h => by rw [hCe]; exact decide_eq_true h
    refine LB.Drawn.looseK C hCl 1 1 (by kernel_rfl) (by kernel_rfl) ?_
    have hsq := Stay.spare t4 1
    have hnq : (spare t4 1).next = t4.next + 1 := spare_next _ _
    have hlow4 : ∀ k, LA.lowV C (some (.pointer (some ⟨s4.next, k, some 10⟩))) = true := fun k => LA.lowV_ptr (A := C) (i := s4.next) (hCo _ hb4'.lt)
    have hlowt : ∀ k, LA.lowV C (some (.pointer (some ⟨t.next, k, some 6⟩))) = true := fun k => LA.lowV_ptr (A := C) (i := t.next) (hCo _ ht4'.lt)
    have hoq := ho4.keeps hsq
    simp (config := { maxSteps := 1000000, implicitDefEqProofs := false }) (disch := omega) only [allW, allR, allL, allB, Nat.sub_self, evalAll, partsA, Nat.reduceLT, Nat.reduceEqDiff, ↓reduceIte, hn, h4, h6, h7, df4, hlow4, hlowt, db_items (hb4'.keeps hsq) htl', hy.self, Thing.loadO (ht4'.keeps hsq) hcl2, hoq.self, valEq_mapV, wrapI]
    refine (rename_any hrn hlr hlb hlc hall.once s3.next TM hMT _ o (Nat.le_refl _) _ (spare t4 1) _ ((hMt.keeps k04).keeps hsq) hoq hso).mono ?_
    rintro _ t5 ⟨cs, rfl, ho5, kst5⟩
    have m5 := kst5.next
    have hcl := ho5.len
    refine ⟨fun _ => LA.Stay.toA hCl (kst5.weaken (by omega)), ?_⟩
    obtain ⟨es, hes⟩ : ∃ es, es = Value.int .i64 ((i : Int) + 1) :: cs := ⟨_, rfl⟩
    have hel : es.length = 6 := by rw [hes]; simp [hcl]
    have hesok : es.all okCell = true := by rw [hes, List.all_cons, ho5.ok]; rfl
    have hself7 : valEq (.agg es.toArray) (.agg es.toArray) = true := by rw [hes]; exact item_self _ ho5.self
    have hbI := bItem ((i : Int) + 1) hcl
    rw [← hes] at hbI
    simp (config := { maxSteps := 1000000, implicitDefEqProofs := false }) (disch := omega) only [allW, allB, partsA, Nat.reduceLT, ↓reduceIte, hn, hbI, hself7, buildAgg1 (cs := es.toArray) Try.underlying27 szI zI plI rfl hel (by decide)]
    refine LB.smake_newSlice (base := t4.next) hel (by omega) (Nat.le_refl _) ?_
    intro bs t6 hbs hid kst6 hnx6 hot6
    have kt6 : Stay t4.next t4 t6 := (hsq.trans (kst5.weaken (by omega))).trans kst6
    have m6 := kt6.next
    have hi6 : ItIs (FF y) t6 es (((i + 1 : Nat) : Int), renO r (findD D.items r[i]).1) := by
      refine ⟨cs, by rw [hes]; rfl, ?_⟩
      rw [hfo]
      refine (ho5.turns (u := .pointer (some ⟨t4.next, 0, none⟩)) (Turns.ofPut hnx6 hot6) (fun j hj e => ?_)).mono (fun j hj => ?_)
      · have e : some t4.next = some j := e
        injection e with e; omega
      · rw [hFF]; exact ⟨by omega, fun h => h, fun e => by have := hy.idlt _ e; omega⟩
    simp (config := { maxSteps := 1000000, implicitDefEqProofs := false }) (disch := omega) only [allW, allB, evalAll, Nat.reduceLT, Nat.reduceEqDiff, ↓reduceIte, hn]
    refine LB.sstep_append Try.underlying27 Try.underlying27 (.inl ⟨_, rfl⟩) szI byI zI rfl (hy5.keeps kt6) hbs.sees.src hel (by decide) hesok (by omega) (by omega) (base := s7.next) hyF (by omega) (fun h => absurd rfl h) (fun j hj => by have := hCl j hj; omega) ?_
    intro y' t7 hy7 hF7 hut7 hor
    have m7' := hut7.next
    have hR6 := hR5.keeps rowedI kt6
    rw [hFF] at hR6 hi6
    have hR7 := hR6.grow rowedI hel hi6 hut7 hor
    rw [show (fun j => s7.next ≤ j ∧ ¬ (fun _ => False) j ∧ idOf y' ≠ some j) = FF y' by rw [hFF]] at hR7
    have hyl : ∀ j, idOf y = some j → s7.next ≤ j := hyF
    have hy7p : idOf y' ≠ some s4.next := fun e => by have := hF7 _ e; omega
    have hyp : idOf y ≠ some s4.next := fun e => by have := hyl _ e; omega
    simp (config := { maxSteps := 1000000, implicitDefEqProofs := false }) (disch := omega) only [allW, allL, allB, Nat.reduceSub, Nat.reduceLT, Nat.reduceEqDiff, ↓reduceIte, hn, h6, df4]
    refine LB.sstep_storeN szIs (by decide) ((hb4'.keeps kt6).turns hut7 hyp) (off := 8) (c := 10) (by rw [db_len htl']) (vs := [y']) hy7.sees.cell1 rfl (by rw [db_len htl']; exact Nat.le_refl _) (by simp [hy7.sees.okCell]) (fun h => absurd rfl h) ?_
    intro t8 ht8 hnx8 hot8
    rw [dc_over htl'] at ht8
    have hu8 : Turns (.pointer (some ⟨s4.next, 0, none⟩)) t7 t8 := Turns.ofPut hnx8 hot8
    have hne8 : ∀ j, FF y' j → idOf (.pointer (some ⟨s4.next, 0, none⟩)) ≠ some j := fun j hj e => by
      have e : some s4.next = some j := e
      injection e with e
      rw [hFF] at hj; have := hj.1; omega
    simp (config := { maxSteps := 1000000, implicitDefEqProofs := false }) (disch := omega) only [allW, allB, Nat.reduceSub, Nat.reduceLT, Nat.reduceEqDiff, ↓reduceIte, allW, Nat.reduceLT, Nat.reduceEqDiff, ↓reduceIte, hn, h7, wrapI]
    refine wround_next (r.length - (i + 1)) (by omega) ⟨i + 1, y', IC ++ es, rfl, by omega, hy7.ofPut hnx8 hot8 hy7p, ?_, hF7, (((hb1.keeps k04).keeps kt6).turns hut7 (fun e => by have := hyl _ e; omega)).ofPut hnx8 hot8 (by omega), (((hb2.keeps k04).keeps kt6).turns hut7 (fun e => by have := hyl _ e; omega)).ofPut hnx8 hot8 (by omega), ht8, ?_, by simp only [n_put, hn], by simp only [get_put, ↓reduceIte, Nat.reduceEqDiff, h1], by simp only [get_put, ↓reduceIte, Nat.reduceEqDiff, h2], by simp only [get_put, ↓reduceIte, Nat.reduceEqDiff, h3], by simp only [get_put, ↓reduceIte, Nat.reduceEqDiff, h4], by simp only [get_put, ↓reduceIte, Nat.reduceEqDiff, h6], by simp only [get_put, ↓reduceIte]; rfl⟩
    · rw [numI_take hlt]
      exact hR7.turns rowedI hu8 hne8
    · exact ⟨by omega, fun q hq hne => by rw [hot8 q (fun e => hne (by rw [e]; rfl)), hut7.get q (by omega) (fun e => by have := hyl _ e; omega), kt6.get q (by omega), k04.get q (by omega), htu.get q hq hne]⟩
  clear hn h1 h2 h3 h4 f ht6 hot6 hm6 hD6 hself6 hl6 hk6 htq hDq htq5 hDq5 hlow ht17 ht27 ht7
  rintro z f t ⟨rfl, y, IC, hy, hR, hyF, hb2, hb4, htu, hn, h2, h6⟩
  have hnt := htu.next
  have hst : Stay s4.next s7 t := ⟨htu.next, fun j hj => htu.get j (by omega) (fun e => by
    have e : some s4.next = some j := e
    injection e with e; omega)⟩
  have hns : ∀ j, s4.next + 1 ≤ j ∧ j < s7.next → idOf (.pointer (some ⟨s4.next, 0, none⟩)) ≠ some j := fun j hj e => by
    have e : some s4.next = some j := e
    injection e with e; omega
  have hmt : Own t 1 mv' D.mark.length (ofBytes D.mark) := hm7.turns htu (fun j hj => hns j (hmi j hj))
  have hot := ho7.turns htu hns
  have hDt : DocIs (fun j => s4.next + 1 ≤ j ∧ (j < s7.next ∨ idOf y = some j ∨ FF y j)) t mv' tc' y IC (numD D r) :=
    ⟨hmt.sees, Foot.of_id (fun j hj => ⟨(hmi j hj).1, .inl (hmi j hj).2⟩), hot.mono (fun j hj => ⟨hj.1, .inl hj.2⟩), by
      show Sees t 6 y (numI D.items r).length IC
      rw [numI_length]; exact hy.sees, Foot.of_id (fun j hj => ⟨by have := hyF j hj; omega, .inr (.inl hj)⟩), hR.mono rowedI (fun j hj => ⟨by rw [hFF] at hj; have := hj.1; omega, .inr (.inr hj)⟩)⟩
  have hDl := docC_len hDt
  have hDk := docC_ok hDt
  simp (config := { maxSteps := 1000000, implicitDefEqProofs := false }) (disch := omega) only [allW, Nat.reduceLT, Nat.reduceEqDiff, ↓reduceIte, hn, h2, h6, db_all hb4 htl']
  refine wstep_storeAll szD (by decide) hb2 rfl rfl hDl hDk ?_
  intro t2 ht2' hnx2' hot2'
  have ht2' : Thing t2 s1.next (docC D mv' tc' y) := ht2'
  simp (config := { maxSteps := 1000000, implicitDefEqProofs := false }) (disch := omega) only [allW, wfn_ret, oneOf, Nat.reduceLT, Nat.reduceEqDiff, ↓reduceIte, hn, h2, db_all ht2' htl', resultsA_cell, Try.results15]
  have hu2 : Turns (.pointer (some ⟨s1.next, 0, none⟩)) t t2 := Turns.ofPut hnx2' hot2'
  exact ⟨mv', tc', y, IC, rfl, (hDt.turns hu2 (fun j hj e => by
    have e : some s1.next = some j := e
    injection e with e; have := hj.1; omega)).mono (fun j hj => by have := hj.1; omega), (hs4.trans (k47.weaken (by omega))).trans ⟨by omega, fun j hj => by rw [hot2' j (by omega), hst.get j (by omega)]⟩⟩
end Go.Proofs.Ythlbahnfimigcaa
namespace Go.Proofs.Ythlbahnfimigcaa
open Go.Cl Go.Lib
theorem answersT {p : Prop} {v : Value} (h : Answers p v) (hp : p) : v = .bool true := by
  obtain ⟨t, rfl, ht⟩ := h
  rw [ht.2 hp]
set_option maxHeartbeats 8000000 in
theorem sameItems_any {lib : Prims} (hl : lib.at 47 = none) (hls : lib.at 20 = none) (hlb : lib.at 46 = none) (F G : Nat → Prop) (s : ASt) (D : Dc) (mv : Value) (tc : List Value) (iv : Value) (ic : List Value) (hD : DocIs F s mv tc iv ic D)
    (nv : Value) (uc : List Value) (jv : Value) (jc : List Value) (hE : DocIs G s nv uc jv jc D) (hs : SmallD D) :
    Runs Try.prog lib 47 [.agg (docC D mv tc iv).toArray, .agg (docC D nv uc jv).toArray] s (BoolsI s true) := by
  have htl := hD.trailer.len
  have hul := hE.trailer.len
  have dl := db_len (D := D) (mv := mv) (iv := iv) htl
  have el := db_len (D := D) (mv := nv) (iv := jv) hul
  have hlen := hs.len
  have wB : ∀ b, valEq (.bool b) (.bool b) = true := fun b => by cases b <;> rfl
  refine Runs.enter 57 Try.func47 rfl hl rfl rfl ?_
  intro f hn hf
  have h0 : f.get 0 = .agg (docC D mv tc iv).toArray := hf 0
  have h1 : f.get 1 = .agg (docC D nv uc jv).toArray := hf 1
  clear hf
  simp (config := { maxSteps := 1000000, implicitDefEqProofs := false }) (disch := omega) only [allW, Nat.reduceLT, ↓reduceIte, hn, h0]
  refine wstep_newPtr ?_
  intro s1 ht1 hst1 hnx1
  have ht1 : Thing s1 s.next (docC D mv tc iv) := ht1
  simp (config := { maxSteps := 1000000, implicitDefEqProofs := false }) (disch := omega) only [allW, Nat.reduceLT, Nat.reduceEqDiff, Nat.reduceAdd, ↓reduceIte, hn, h1, dl]
  refine wstep_newPtr ?_
  intro s2 ht2 hst2 hnx2
  have ht2 : Thing s2 s1.next (docC D nv uc jv) := ht2
  have n1 := hst1.next
  have n2 := hst2.next
  have hs2 : Stay s.next s s2 := hst1.trans (hst2.weaken n1)
  have ht12 := ht1.keeps hst2
  have hD2 := hD.keeps hs2
  have hE2 := hE.keeps hs2
  simp (config := { maxSteps := 1000000, implicitDefEqProofs := false }) (disch := omega) only [allW, allR, evalAll, Nat.reduceLT, Nat.reduceEqDiff, Nat.reduceAdd, ↓reduceIte, hn, el, df3, db_trailer ht12 htl, db_trailer ht2 hul]
  refine (rsame_any hls hlb _ D.trailer D.trailer (Nat.le_refl _) F G s2 tc uc hD2.trailer hE2.trailer hs.trailer hs.trailer).mono ?_
  rintro v3 s3 ⟨hv3, k3⟩
  obtain rfl := answersT hv3 (SameO.self _)
  have n3 := k3.next
  have hD3 := hD2.keeps k3
  have hE3 := hE2.keeps k3
  have ht13 := ht12.keeps k3
  have ht23 := ht2.keeps k3
  simp (config := { maxSteps := 1000000, implicitDefEqProofs := false }) (disch := omega) only [allW, allR, evalAll, Nat.reduceLT, Nat.reduceEqDiff, ↓reduceIte, hn, df4, db_items ht13 htl, db_items ht23 hul, hD3.items.lenA Try.underlying27, hE3.items.lenA Try.underlying27]
  refine Comes.loopOut (fun z f t => ∃ i : Nat, z = D.items.length - i ∧ i ≤ D.items.length ∧ Stay s3.next s3 t ∧ f.n = 57 ∧ f.get 2 = .pointer (some ⟨s.next, 0, some 10⟩) ∧ f.get 3 = .pointer (some ⟨s1.next, 0, some 10⟩) ∧ f.get 5 = .int .i64 (i : Nat))
    (fun z f t => z = .exit 0 ∧ Stay s3.next s3 t ∧ f.n = 57)
    ⟨0, rfl, by omega, Stay.refl _ _, by simp only [n_put, hn], by simp only [get_put, ↓reduceIte, Nat.reduceEqDiff], by simp only [get_put, ↓reduceIte, Nat.reduceEqDiff], by simp only [get_put, ↓reduceIte]; rfl⟩ ?_ ?_
  · clear hn h0 h1 f
    rintro Q hQ z f t ⟨i, rfl, hi, hst, hn, h2, h3, h5⟩
    have hnt := hst.next
    have hDt := hD3.keeps hst
    have hEt := hE3.keeps hst
    have hat := ht13.keeps hst
    have hbt := ht23.keeps hst
    by_cases hlt : i < D.items.length
    rotate_left
    · obtain rfl : i = D.items.length := by omega
      have d1 : ¬ ((D.items.length : Nat) : Int) < ((D.items.length : Nat) : Int) := by omega
      simp (config := { maxSteps := 1000000, implicitDefEqProofs := false }) (disch := omega) only [allW, evalAll, Nat.reduceLT, Nat.reduceEqDiff, ↓reduceIte, hn, h2, h5, df4, db_items hat htl, hDt.items.lenA Try.underlying27, eq_false d1]
      exact hQ _ _ _ ⟨rfl, hst, by simp only [n_put, hn]⟩
    have d1 : (i : Int) < (D.items.length : Int) := by omega
    simp (config := { maxSteps := 1000000, implicitDefEqProofs := false }) (disch := omega) only [allW, evalAll, Nat.reduceLT, Nat.reduceEqDiff, ↓reduceIte, hn, h2, h5, df4, db_items hat htl, hDt.items.lenA Try.underlying27, eq_true d1]
    obtain ⟨B, hB⟩ : ∃ B : Nat → Bool, B = fun j => decide (j < t.next) := ⟨_, rfl⟩
    have hBl : ∀ j, B j = true → j < t.next := by
      intro j h
      rw [hB] at h
      exact of_decide_eq_true h
    have hBo : ∀ j, j < t.next → B j = true := fun j h => by rw [hB]; exact decide_eq_true h
    refine LB.Drawn.looseK B hBl 0 0 (by kernel_rfl) (by kernel_rfl) ?_
    have hsq := Stay.spare t 0
    have hla : ∀ k, LA.lowV B (some (.pointer (some ⟨s.next, k, some 10⟩))) = true := fun k => LA.lowV_ptr (A := B) (i := s.next) (hBo _ hat.lt)
    have hlb' : ∀ k, LA.lowV B (some (.pointer (some ⟨s1.next, k, some 10⟩))) = true := fun k => LA.lowV_ptr (A := B) (i := s1.next) (hBo _ hbt.lt)
    have haq := hat.keeps hsq
    have hbq := hbt.keeps hsq
    have hDq := hDt.keeps hsq
    have hEq := hEt.keeps hsq
    have hix := hDq.items.indexAddr (P := Try.prog) (k := .i64) (x := (i : Int)) Try.underlying27 szI (by omega) (by omega)
    have hjx := hEq.items.indexAddr (P := Try.prog) (k := .i64) (x := (i : Int)) Try.underlying27 szI (by omega) (by omega)
    rw [Int.toNat_natCast] at hix hjx
    obtain ⟨q0, q1⟩ := efI hDq.items hlt
    obtain ⟨p0, p1⟩ := efI hEq.items hlt
    obtain ⟨b1, b2, b3, -⟩ := itemB (hDq.rows.row i hlt)
    obtain ⟨c1, c2, c3, -⟩ := itemB (hEq.rows.row i hlt)
    have hlv := hDq.items.loadPart (P := Try.prog) agO szO hlt (j := 1) (by omega)
    have hlw := hEq.items.loadPart (P := Try.prog) agO szO hlt (j := 1) (by omega)
    have hln := hDq.items.loadField (P := Try.prog) agInt hlt (j := 0) (by omega)
    have hlm := hEq.items.loadField (P := Try.prog) agInt hlt (j := 0) (by omega)
    rw [Nat.add_zero, b1] at hln
    rw [Nat.add_zero, c1] at hlm
    simp (config := { maxSteps := 1000000, implicitDefEqProofs := false }) (disch := omega) only [allW, allR, allL, allB, Nat.reduceSub, evalAll, Nat.reduceLT, Nat.reduceEqDiff, ↓reduceIte, hn, h2, h3, h5, df4, hla, hlb', db_items haq htl, db_items hbq hul, hDq.items.self, hEq.items.self, hix, hjx, q0, q1, p0, p1, hlv, hlw, hln, hlm, b3.self, c3.self, valEq_plus, LA.lowV_plus hDt.items hBo hlt, LA.lowV_plus hEt.items hBo hlt, wB]
    refine (rsame_any hls hlb _ D.items[i].2 D.items[i].2 (Nat.le_refl _) F G (spare t 0) _ _ b3 c3 (hs.items _ (List.getElem_mem hlt)) (hs.items _ (List.getElem_mem hlt))).mono ?_
    rintro v4 s4 ⟨hv4, k4⟩
    obtain rfl := answersT hv4 (SameO.self _)
    have n4 := k4.next
    refine ⟨fun h => h.elim, ?_⟩
    simp (config := { maxSteps := 1000000, implicitDefEqProofs := false }) (disch := omega) only [allW, allL, allB, Nat.reduceLT, Nat.reduceEqDiff, ↓reduceIte, allW, Nat.reduceLT, Nat.reduceEqDiff, ↓reduceIte, hn, h5, wB, wrapI]
    exact wround_next (D.items.length - (i + 1)) (by omega) ⟨i + 1, rfl, by omega, hst.trans ((hsq.trans (k4.weaken hsq.next)).weaken hnt), by simp only [n_put, hn], by simp only [get_put, ↓reduceIte, Nat.reduceEqDiff, h2], by simp only [get_put, ↓reduceIte, Nat.reduceEqDiff, h3], by simp only [get_put, ↓reduceIte]; rfl⟩
  clear hn h0 h1 f
  rintro z f t ⟨rfl, hst, hn⟩
  simp (config := { maxSteps := 1000000, implicitDefEqProofs := false }) (disch := omega) only [allW, wfn_ret, oneOf, Nat.reduceLT, ↓reduceIte, hn, Try.results47]
  exact ⟨rfl, (hs2.trans (k3.weaken (by omega))).trans (hst.weaken (by omega))⟩
set_option maxHeartbeats 8000000 in
theorem sameDoc_any {lib : Prims} (hl0 : lib.at 16 = none) (hl : lib.at 47 = none) (hls : lib.at 20 = none) (hlb : lib.at 46 = none) (F G : Nat → Prop) (s : ASt) (D : Dc) (mv : Value) (tc : List Value) (iv : Value) (ic : List Value) (hD : DocIs F s mv tc iv ic D)
    (nv : Value) (uc : List Value) (jv : Value) (jc : List Value) (hE : DocIs G s nv uc jv jc D) (hs : SmallD D) :
    Runs Try.prog lib 16 [.agg (docC D mv tc iv).toArray, .agg (docC D nv uc jv).toArray] s (BoolsI s true) := by
  have htl := hD.trailer.len
  have hul := hE.trailer.len
  have dl := db_len (D := D) (mv := mv) (iv := iv) htl
  have el := db_len (D := D) (mv := nv) (iv := jv) hul
  have hmk := hs.mark
  refine Runs.enter 29 Try.func16 rfl hl0 rfl rfl ?_
  intro f hn hf
  have h0 : f.get 0 = .agg (docC D mv tc iv).toArray := hf 0
  have h1 : f.get 1 = .agg (docC D nv uc jv).toArray := hf 1
  clear hf
  simp (config := { maxSteps := 1000000, implicitDefEqProofs := false }) (disch := omega) only [allW, Nat.reduceLT, ↓reduceIte, hn, h0]
  refine wstep_newPtr ?_
  intro s1 ht1 hst1 hnx1
  have ht1 : Thing s1 s.next (docC D mv tc iv) := ht1
  simp (config := { maxSteps := 1000000, implicitDefEqProofs := false }) (disch := omega) only [allW, Nat.reduceLT, Nat.reduceEqDiff, Nat.reduceAdd, ↓reduceIte, hn, h1, dl]
  refine wstep_newPtr ?_
  intro s2 ht2 hst2 hnx2
  have ht2 : Thing s2 s1.next (docC D nv uc jv) := ht2
  have n1 := hst1.next
  have hs2 : Stay s.next s s2 := hst1.trans (hst2.weaken n1)
  have ht12 := ht1.keeps hst2
  have hD2 := hD.keeps hs2
  have hE2 := hE.keeps hs2
  simp (config := { maxSteps := 1000000, implicitDefEqProofs := false }) (disch := omega) only [allW, allR, evalAll, Nat.reduceLT, Nat.reduceEqDiff, Nat.reduceAdd, ↓reduceIte, hn, el, df0, df1, db_minor ht12 htl, db_minor ht2 hul, db_mark ht12 htl, db_mark ht2 hul]
  refine (same_any hlb s2 mv nv D.mark D.mark hD2.mark hE2.mark (by omega) (by omega)).mono ?_
  rintro _ s3 ⟨rfl, rfl⟩
  simp (config := { maxSteps := 1000000, implicitDefEqProofs := false }) (disch := omega) only [allW, allR, evalAll, Nat.reduceLT, Nat.reduceEqDiff, ↓reduceIte, hn, df2, db_tail ht12 htl, db_tail ht2 hul, db_all ht12 htl, db_all ht2 hul]
  refine (sameItems_any hl hls hlb F G s3 D mv tc iv ic hD2 nv uc jv jc hE2 hs).mono ?_
  rintro _ s4 ⟨rfl, k4⟩
  simp (config := { maxSteps := 1000000, implicitDefEqProofs := false }) (disch := omega) only [allW, oneOf, Nat.reduceLT, Nat.reduceEqDiff, ↓reduceIte, allW, wfn_ret, oneOf, Nat.reduceLT, Nat.reduceEqDiff, ↓reduceIte, hn, Try.results16]
  exact ⟨rfl, hs2.trans (k4.weaken (by have := hs2.next; omega))⟩
end Go.Proofs.Ythlbahnfimigcaa
