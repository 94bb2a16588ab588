/-
  Documents: objects by new numbers: the program, the reference.
-/
import Derived.Test.YthlbahnfimigcaaDocO
import Derived.Test.YthlbahnfimigcaaDocJ
import Derived.Test.YthlbahnfimigcaaCosC
set_option linter.unusedSimpArgs false
set_option linter.unusedVariables false
namespace Go.Cl
def MetIs (s : ASt) (w : Nat) (r : List Int) : Prop := ∃ (D : Dc) (mv : Value) (tc : List Value) (iv : Value) (a m : Nat) (lv : Value) (TM : List (Int × Value)), tc.length = 5 ∧ Thing s w (wkC D mv tc iv a m lv) ∧ MapJ s m TM ∧ MetTo r TM
theorem MetIs.keeps {s s' : ASt} {w : Nat} {r : List Int} (h : MetIs s w r) (k : Stay s.next s s') : MetIs s' w r := by
  obtain ⟨D, mv, tc, iv, a, m, lv, TM, h1, h2, h3, h4⟩ := h
  exact ⟨D, mv, tc, iv, a, m, lv, TM, h1, h2.keeps k, h3.keeps k, h4⟩
theorem OIs.kind0 {F : Nat → Prop} {s : ASt} {cs : List Value} {o : O} (h : OIs F s cs o) : cs.getD 0 undef = .int .i64 o.kind := by
  cases o
  obtain ⟨_, _, _, _, _, rfl, _⟩ := h.parts
  rfl
noncomputable def renE (r : List Int) (d : List (List UInt8 × O)) : List (List UInt8 × O) := (d.map fun e => (e.1, renO r e.2)).filter fun e => decide (e.2.kind ≠ 0)
theorem renE_take (r : List Int) {d : List (List UInt8 × O)} {i : Nat} (h : i < d.length) : renE r (d.take (i + 1)) = if (renO r d[i].2).kind = 0 then renE r (d.take i) else renE r (d.take i) ++ [(d[i].1, renO r d[i].2)] := by
  unfold renE
  rw [List.take_add_one, List.getElem?_eq_getElem h]
  simp only [Option.toList_some, List.map_append, List.filter_append, List.map_cons, List.map_nil, List.filter_cons, List.filter_nil]
  by_cases c : (renO r d[i].2).kind = 0
  · simp [c]
  · simp [c]
theorem renE_le (r : List Int) (d : List (List UInt8 × O)) (i : Nat) : (renE r (d.take i)).length ≤ i := by
  unfold renE
  refine Nat.le_trans (List.length_filter_le ..) ?_
  simp; omega
theorem renO_ref (r : List Int) (n : Int) (b : List UInt8) (l : List O) (d : List (List UInt8 × O)) : renO r (.mk 9 n b l d) = if n ∈ r then .mk 9 (newN r n) [] [] [] else O.none := by rw [renO_mk, if_pos rfl]
theorem renO_arr (r : List Int) (n : Int) (b : List UInt8) (l : List O) (d : List (List UInt8 × O)) : renO r (.mk 6 n b l d) = .mk 6 0 [] (l.map (renO r)) [] := by rw [renO_mk, if_neg (by decide), if_pos rfl]
theorem renO_dict (r : List Int) {k : Int} (hk : k = 7 ∨ k = 8) (n : Int) (b : List UInt8) (l : List O) (d : List (List UInt8 × O)) : renO r (.mk k n b l d) = .mk k 0 b [] (renE r d) := by rw [renO_mk, if_neg (by omega), if_neg (by omega), if_pos hk]; rfl
theorem renO_else (r : List Int) {k : Int} (h9 : k ≠ 9) (h6 : k ≠ 6) (hk : ¬ (k = 7 ∨ k = 8)) (n : Int) (b : List UInt8) (l : List O) (d : List (List UInt8 × O)) : renO r (.mk k n b l d) = .mk k n b l d := by rw [renO_mk, if_neg h9, if_neg h6, if_neg hk]
end Go.Cl
namespace Go.Proofs.Ythlbahnfimigcaa
open Go.Cl Go.Lib
theorem ref_any {lib : Prims} (hl : lib.at 62 = none) (s : ASt) (n : Int) : Runs Try.prog lib 62 [.int .i64 n] s (NewO s (.mk 9 n [] [] [])) := by
  refine Runs.enter 5 Try.func62 rfl hl rfl rfl ?_
  intro f hn hf
  have h0 : f.get 0 = .int .i64 n := hf 0
  clear hf
  simp (config := { maxSteps := 1000000, implicitDefEqProofs := false }) (disch := omega) only [allW, ↓reduceIte, zO, plO]
  refine wstep_newPtr ?_
  intro s1 ht1 hst1 hnx1
  have hd6 : noneC.length + 1 = 6 := rfl
  simp (config := { maxSteps := 1000000, implicitDefEqProofs := false }) (disch := omega) only [allW, partsA, Nat.reduceLT, Nat.reduceEqDiff, ↓reduceIte, hn, h0, hd6, bO]
  refine wstep_storeAll szO (by decide) ht1 rfl rfl rfl rfl ?_
  intro s2 ht2 hnx2 hot2
  simp (config := { maxSteps := 1000000, implicitDefEqProofs := false }) (disch := omega) only [allW, wfn_ret, oneOf, Nat.reduceLT, Nat.reduceEqDiff, ↓reduceIte, hn, Thing.loadO ht2 rfl, resultsA_cell, Try.results62]
  exact NewO.put (F := fun _ => False) (OIs.bare _ s1 9 n) (fun j hj => hj.elim) hnx2 hot2 hst1 (Nat.le_refl _)
set_option maxHeartbeats 8000000 in
theorem renamed_any {lib : Prims} (hl : lib.at 43 = none) (hln : lib.at 49 = none) (hlr : lib.at 62 = none) (hlb : lib.at 42 = none) (hlc : lib.at 41 = none) {r : List Int} (hr : r.Nodup) (w : Nat) :
    ∀ (N : Nat) (o : O), SizeOf.sizeOf o ≤ N → ∀ (F : Nat → Prop) (s : ASt) (cs : List Value), MetIs s w r → OIs F s cs o → Small o →
    Runs Try.prog lib 43 [.pointer (some ⟨w, 0, some 13⟩), .agg cs.toArray] s (NewO s (renO r o)) := by
  intro N
  induction N with
  | zero => intro o h; have := o.size_pos; omega
  | succ N ih =>
  intro o hN F s cs hw ho hsm
  have ho0 := ho
  have hsm0 := hsm
  have hcl0 := ho.len
  cases o with
  | mk kind num b l d =>
  obtain ⟨bv, lv, dv, lc, dc, rfl, hb, hL, hD, fb, fl, fd, rl, rd⟩ := ho.parts
  cases hsm with
  | mk hb1 hl2 hd1 hK1 hL1 hD1 =>
  refine Runs.enter 89 Try.func43 rfl hl rfl rfl ?_
  intro f hn hf
  have h0 : f.get 0 = .pointer (some ⟨w, 0, some 13⟩) := hf 0
  have h1 : f.get 1 = .agg #[.int .i64 kind, .int .i64 num, bv, lv, dv] := hf 1
  clear hf
  simp (config := { maxSteps := 1000000, implicitDefEqProofs := false }) (disch := omega) only [allW, Nat.reduceLT, ↓reduceIte, hn, h1]
  refine wstep_newPtr ?_
  intro s1 ht1 hst1 hnx1
  have hd6 : noneC.length + 1 = 6 := rfl
  simp (config := { maxSteps := 1000000, implicitDefEqProofs := false }) (disch := omega) only [allW, Nat.reduceLT, Nat.reduceAdd, ↓reduceIte, hn, List.length_cons, List.length_nil, zO, plO]
  refine wstep_newPtr ?_
  intro s2 ht2 hst2 hnx2
  have ht12 := ht1.keeps hst2
  have n1 := hst1.next
  have n2 := hst2.next
  have hs2 : Stay s.next s s2 := hst1.trans (hst2.weaken (by omega))
  have hw2 := hw.keeps hs2
  have l0 : loadA Try.prog s2 3 (.pointer (some ⟨s.next, 0, some 6⟩)) = some (.int .i64 kind) := ht12.load agInt (off := 0) (c := 6) rfl (by simp)
  have l1 : loadA Try.prog s2 2 (.pointer (some ⟨s.next, 1, some 6⟩)) = some (.int .i64 num) := ht12.load agI64 (off := 1) (c := 6) rfl (by simp)
  
  have fin : ∀ (f : AFr) (t : ASt) (cs' : List Value) (o' : O), f.n = 89 → f.get 4 = .pointer (some ⟨s1.next, 0, some 6⟩) → Thing t s1.next cs' → cs'.length = 5 → OIs (fun j => s2.next ≤ j) t cs' o' → Stay s.next s t → wfn Try.prog Try.f43.results.toList (NewO s o') .ret f t := by
    intro f t cs' o' hn h4 ht hl ho hst
    simp (config := { maxSteps := 1000000, implicitDefEqProofs := false }) (disch := omega) only [allW, wfn_ret, oneOf, Nat.reduceLT, ↓reduceIte, hn, h4, Thing.loadO ht hl, resultsA_cell, Try.results43]
    exact ⟨cs', rfl, ho.mono (fun j hj => by omega), hst⟩
  by_cases k9 : kind = 9
  · subst k9
    obtain ⟨DD, mv, tc, iv, a, m, lv', TM, htl, hTh, hM, hMT⟩ := hw2
    have hlk := hM.lookup uMpJ uInt zInt plInt num
    rw [renO_ref]
    rw [hMT.new hr num] at hlk
    by_cases hin : num ∈ r
    · rw [if_pos hin] at hlk ⊢
      simp only [Option.getD_some, Option.isSome_some] at hlk
      simp (config := { maxSteps := 1000000, implicitDefEqProofs := false }) (disch := omega) only [allW, allR, evalAll, Nat.reduceLT, Nat.reduceEqDiff, ↓reduceIte, hn, h0, hd6, of0, of1, l0, l1, wf2, wk_met hTh htl, hlk, quiet_lookup, valEq_mapV, valEq_look, ext0, ext1]
      refine (ref_any hlr s2 (newN r num)).mono ?_
      rintro _ s3 ⟨cs', rfl, ho3, hst3⟩
      have hcl := ho3.len
      simp (config := { maxSteps := 1000000, implicitDefEqProofs := false }) (disch := omega) only [allW, Nat.reduceLT, Nat.reduceEqDiff, ↓reduceIte, hn]
      refine wstep_storeAll szO (by decide) (ht2.keeps hst3) rfl rfl hcl ho3.ok ?_
      intro s4 ht4 hnx4 hot4
      simp (config := { maxSteps := 1000000, implicitDefEqProofs := false }) (disch := omega) only [allW]
      exact fin _ _ cs' _ (by simp only [n_put, hn]) (by simp only [get_put, ↓reduceIte, Nat.reduceEqDiff]) ht4 hcl (ho3.ofPut hnx4 hot4 (by omega)) ((hs2.trans (hst3.weaken (by omega))).trans ⟨by omega, fun j hj => hot4 j (by omega)⟩)
    · rw [if_neg hin] at hlk ⊢
      simp only [Option.getD_none, Option.isSome_none] at hlk
      simp (config := { maxSteps := 1000000, implicitDefEqProofs := false }) (disch := omega) only [allW, allR, evalAll, Nat.reduceLT, Nat.reduceEqDiff, ↓reduceIte, hn, h0, hd6, of0, of1, l0, l1, wf2, wk_met hTh htl, hlk, quiet_lookup, valEq_mapV, valEq_look, ext0, ext1]
      refine (none_any hln s2).mono ?_
      rintro _ s3 ⟨cs', rfl, ho3, hst3⟩
      have hcl := ho3.len
      simp (config := { maxSteps := 1000000, implicitDefEqProofs := false }) (disch := omega) only [allW, Nat.reduceLT, Nat.reduceEqDiff, ↓reduceIte, hn]
      refine wstep_storeAll szO (by decide) (ht2.keeps hst3) rfl rfl hcl ho3.ok ?_
      intro s4 ht4 hnx4 hot4
      simp (config := { maxSteps := 1000000, implicitDefEqProofs := false }) (disch := omega) only [allW]
      exact fin _ _ cs' _ (by simp only [n_put, hn]) (by simp only [get_put, ↓reduceIte, Nat.reduceEqDiff]) ht4 hcl (ho3.ofPut hnx4 hot4 (by omega)) ((hs2.trans (hst3.weaken (by omega))).trans ⟨by omega, fun j hj => hot4 j (by omega)⟩)
  by_cases k6 : kind = 6
  · subst k6
    rw [renO_arr]
    simp (config := { maxSteps := 1000000, implicitDefEqProofs := false }) (disch := omega) only [allW, partsA, Nat.reduceLT, Nat.reduceEqDiff, ↓reduceIte, hn, hd6, of0, l0, eq_false k9, bO1, zO, plO]
    refine wstep_newPtr ?_
    intro s3 ht3 hst3 hnx3
    simp (config := { maxSteps := 1000000, implicitDefEqProofs := false }) (disch := omega) only [allW, Nat.reduceLT, Nat.reduceEqDiff, ↓reduceIte, hn, hd6]
    refine wstep_storeAll szO (by decide) ht3 rfl rfl rfl rfl ?_
    intro s5 ht5 hnx5 hot5
    have ht5 : Thing s5 s2.next [.int .i64 6, .int .i64 0, .slice none 0 0, .slice none 0 0, .slice none 0 0] := ht5
    have hs25 : Stay s2.next s2 s5 := hst3.trans ⟨by omega, fun j hj => hot5 j (by omega)⟩
    have hs5 : Stay s.next s s5 := hs2.trans (hs25.weaken (by omega))
    have ht15 := ht12.keeps hs25
    have ht25 := ht2.keeps hs25
    have hL5 := hL.keeps hs5
    have hw5 := hw2.keeps hs25
    have hn25 := hs25.next
    have ht5lt : s2.next < s5.next := ht5.lt
    have l6 : loadA Try.prog s5 23 (.pointer (some ⟨s.next, 3, some 6⟩)) = some lv := ht15.load agLs (off := 3) (c := 6) rfl (by simp)
    simp (config := { maxSteps := 1000000, implicitDefEqProofs := false }) (disch := omega) only [allW, evalAll, Nat.reduceLT, Nat.reduceEqDiff, ↓reduceIte, hn, of3, l6, hL5.lenA Try.underlying23]
    obtain ⟨FF, hFF⟩ : ∃ FF : Value → Nat → Prop, FF = fun v j => s5.next ≤ j ∧ ¬ (fun _ => False) j ∧ idOf v ≠ some j := ⟨_, rfl⟩
    refine Comes.loopOut (fun z f s6 => ∃ (i : Nat) (y : Value) (LC : List Value), z = l.length - i ∧ i ≤ l.length ∧ Own s6 5 y i LC ∧ ORows OIs 5 (FF y) s6 ((l.take i).map (renO r)) LC ∧ Fresh s5.next y ∧ Thing s6 s1.next noneC ∧ Thing s6 s2.next [.int .i64 6, .int .i64 0, .slice none 0 0, y, .slice none 0 0] ∧ Stay s2.next s5 s6 ∧ f.n = 89 ∧ f.get 0 = .pointer (some ⟨w, 0, some 13⟩) ∧ f.get 4 = .pointer (some ⟨s1.next, 0, some 6⟩) ∧ f.get 7 = .pointer (some ⟨s2.next, 0, some 6⟩) ∧ f.get 37 = lv ∧ f.get 38 = .int .i64 (l.length : Nat) ∧ f.get 39 = .int .i64 (i : Nat))
      (fun z f s6 => z = .exit 1 ∧ ∃ (y : Value) (LC : List Value), Own s6 5 y l.length LC ∧ ORows OIs 5 (FF y) s6 (l.map (renO r)) LC ∧ Fresh s5.next y ∧ Thing s6 s1.next noneC ∧ Thing s6 s2.next [.int .i64 6, .int .i64 0, .slice none 0 0, y, .slice none 0 0] ∧ Stay s2.next s5 s6 ∧ f.n = 89 ∧ f.get 4 = .pointer (some ⟨s1.next, 0, some 6⟩) ∧ f.get 7 = .pointer (some ⟨s2.next, 0, some 6⟩))
      ⟨0, .slice none 0 0, [], rfl, by omega, .nil, by rw [List.take_zero]; exact ORows.nil, Fresh.nil _, ht25, ht5, Stay.refl _ _, by simp only [n_put, hn], by simp only [get_put, ↓reduceIte, Nat.reduceEqDiff, h0], by simp only [get_put, ↓reduceIte, Nat.reduceEqDiff], by simp only [get_put, ↓reduceIte, Nat.reduceEqDiff], by simp only [get_put, ↓reduceIte, Nat.reduceEqDiff], by simp only [get_put, ↓reduceIte, Nat.reduceEqDiff], by simp only [get_put, ↓reduceIte]; rfl⟩ ?_ ?_
    · clear hn h0 h1 f ht3 ht5 hot5 ht15 ht25 l6
      rintro Q hQ z f s6 ⟨i, y, LC, rfl, hi, hy, hR, hyF, hb2', hb3', hst6, hn, h0, h4, h7, h37, h38, h39⟩
      have hn6 := hst6.next
      have hs6 : Stay s2.next s2 s6 := hs25.trans hst6
      have hs06 : Stay s.next s s6 := hs2.trans (hs6.weaken (by omega))
      have hL6 := hL.keeps hs06
      by_cases hlt : i < l.length
      rotate_left
      · obtain rfl : i = l.length := by omega
        rw [List.take_length] at hR
        have d1 : ¬ ((l.length : Nat) : Int) < ((l.length : Nat) : Int) := by omega
        simp (config := { maxSteps := 1000000, implicitDefEqProofs := false }) (disch := omega) only [allW, Nat.reduceLT, ↓reduceIte, hn, h38, h39, eq_false d1]
        exact hQ _ _ _ ⟨rfl, y, LC, hy, hR, hyF, hb2', hb3', hst6, by simp only [n_put, hn], by simp only [get_put, ↓reduceIte, Nat.reduceEqDiff, h4], by simp only [get_put, ↓reduceIte, Nat.reduceEqDiff, h7]⟩
      have hy2 : idOf y ≠ some s2.next := fun e => by have := hyF _ e; omega
      have d1 : (i : Int) < (l.length : Int) := by omega
      have hix := hL6.indexAddr (P := Try.prog) (k := .i64) (x := (i : Int)) Try.underlying23 szO (by omega) (by omega)
      rw [Int.toNat_natCast] at hix
      have hld := hL6.loadAgg (P := Try.prog) agO szO hlt
      have hoi := (rl.row i hlt).keeps hs06
      obtain ⟨xs, hxs⟩ : ∃ xs, xs = (lc.drop (i * 5)).take 5 := ⟨_, rfl⟩
      rw [← hxs] at hld hoi
      have hxl := hoi.len
      simp (config := { maxSteps := 1000000, implicitDefEqProofs := false }) (disch := omega) only [allW, Nat.reduceLT, Nat.reduceEqDiff, ↓reduceIte, hn, h37, h38, h39, eq_true d1, hix, hld, zO, plO]
      refine wstep_newPtr ?_
      intro s7 ht7 hst7 hnx7
      simp (config := { maxSteps := 1000000, implicitDefEqProofs := false }) (disch := omega) only [allW, Nat.reduceLT, Nat.reduceEqDiff, ↓reduceIte, hn, hd6]
      refine wstep_storeAll szO (by decide) ht7 rfl rfl hxl hoi.ok ?_
      intro s8 ht8 hnx8 hot8
      have ht8 : Thing s8 s6.next xs := ht8
      have hs68 : Stay s6.next s6 s8 := hst7.trans ⟨by omega, fun j hj => hot8 j (by omega)⟩
      have hn8 := hs68.next
      have hb2' := hb2'.keeps hs68
      have hb3' := hb3'.keeps hs68
      have hy := hy.keeps hs68
      have hR := hR.keeps rowedO hs68
      have hoi := hoi.keeps hs68
      simp (config := { maxSteps := 1000000, implicitDefEqProofs := false }) (disch := omega) only [allW]
      obtain ⟨A, hA⟩ : ∃ A : Nat → Bool, A = fun j => decide (j < s8.next) := ⟨_, rfl⟩
      have hAl : ∀ j, A j = true → j < s8.next := by
        intro j h
        rw [hA] at h
        exact of_decide_eq_true h
      have hAo : ∀ j, j < s8.next → A j = true := fun j h => by rw [hA]; exact decide_eq_true h
      refine LB.Drawn.looseK A hAl 1 1 (by kernel_rfl) (by kernel_rfl) ?_
      have hsp := Stay.spare s8 1
      have hnT : (spare s8 1).next = s8.next + 1 := spare_next _ _
      have hlow3 : ∀ k, LA.lowV A (some (.pointer (some ⟨s2.next, k, some 6⟩))) = true := fun k => LA.lowV_ptr (A := A) (i := s2.next) (hAo _ hb3'.lt)
      have hlow5 : ∀ k, LA.lowV A (some (.pointer (some ⟨s6.next, k, some 6⟩))) = true := fun k => LA.lowV_ptr (A := A) (i := s6.next) (hAo _ ht8.lt)
      have l8 : loadA Try.prog (spare s8 1) 23 (.pointer (some ⟨s2.next, 3, some 6⟩)) = some y := (hb3'.keeps hsp).load agLs (off := 3) (c := 6) rfl (by simp)
      have l9 : loadA Try.prog (spare s8 1) 26 (.pointer (some ⟨s6.next, 0, some 6⟩)) = some (.agg xs.toArray) := Thing.loadAll agO (by rw [hxl]; exact szO) (ht8.keeps hsp) (by rw [hxl])
      have hoi := hoi.keeps hsp
      have hwq := (hw2.keeps (hs6.trans (hs68.weaken (by omega)))).keeps (hsp.weaken (by omega))
      simp (config := { maxSteps := 1000000, implicitDefEqProofs := false }) (disch := omega) only [allW, allR, allL, allB, Nat.sub_self, evalAll, partsA, Nat.reduceLT, Nat.reduceEqDiff, ↓reduceIte, hn, h0, h7, of3, hlow3, hlow5, l8, l9, hy.self, hoi.self]
      refine (ih l[i] (by have := O.items_lt (k := 6) (n := num) (b := b) (l := l) (d := d) (List.getElem_mem hlt); omega) F (spare s8 1) _ hwq hoi (hL1 _ (List.getElem_mem hlt))).mono ?_
      rintro _ s9 ⟨cs7, rfl, ho7, hst9⟩
      have hn9 := hst9.next
      refine ⟨fun _ => LA.Stay.toA hAl (hst9.weaken (by omega)), ?_⟩
      have hl7 := ho7.len
      simp (config := { maxSteps := 1000000, implicitDefEqProofs := false }) (disch := omega) only [buildAgg1 (cs := cs7.toArray) Try.underlying23 szO zO plO rfl hl7 (by decide)]
      refine LB.smake_newSlice (base := s8.next) hl7 (by omega) (Nat.le_refl _) ?_
      intro bs sa hbs hid hsta hnxa hota
      have hst8a : Stay s8.next s8 sa := (hsp.trans (hst9.weaken (by omega))).trans hsta
      have hna := hst8a.next
      have ho8 : OIs (FF y) sa cs7 (renO r l[i]) := by
        refine (ho7.turns (u := .pointer (some ⟨s8.next, 0, none⟩)) (Turns.ofPut hnxa hota) (fun j hj e => ?_)).mono (fun j hj => ?_)
        · have e : some s8.next = some j := e
          injection e with e; omega
        · rw [hFF]; exact ⟨by omega, fun h => h, fun e => by have := hy.idlt _ e; omega⟩
      simp (config := { maxSteps := 1000000, implicitDefEqProofs := false }) (disch := omega) only [allW, allB, evalAll, Nat.reduceLT, Nat.reduceEqDiff, ↓reduceIte, hn]
      refine LB.sstep_append Try.underlying23 Try.underlying23 (.inl ⟨_, rfl⟩) szO byO zO rfl (hy.keeps hst8a) hbs.sees.src hl7 (by decide) ho8.ok (by omega) (by omega) (base := s5.next) hyF (by omega) (fun h => absurd rfl h) (fun j hj => by have := hAl j hj; omega) ?_
      intro y' sb hyb hFb hutb hor
      have hnb := hutb.next
      have hR8 := hR.keeps rowedO hst8a
      rw [hFF] at hR8 ho8
      have hR9 := hR8.grow rowedO hl7 ho8 hutb hor
      rw [show (fun j => s5.next ≤ j ∧ ¬ (fun _ => False) j ∧ idOf y' ≠ some j) = FF y' by rw [hFF]] at hR9
      have hyl : ∀ j, idOf y = some j → s5.next ≤ j := hyF
      have hyb2 : idOf y' ≠ some s2.next := fun e => by have := hFb _ e; omega
      simp (config := { maxSteps := 1000000, implicitDefEqProofs := false }) (disch := omega) only [allW, allL, allB, Nat.reduceSub, Nat.reduceLT, Nat.reduceEqDiff, ↓reduceIte, hn, h7, of3]
      refine LB.sstep_storeN szLs (by decide) ((hb3'.keeps hst8a).turns hutb hy2) (off := 3) (c := 6) rfl (vs := [y']) hyb.sees.cell1 rfl (by simp) (by simp [hyb.sees.okCell]) (fun h => absurd rfl h) ?_
      intro sc htc hnxc hotc
      have htc : Thing sc s2.next [.int .i64 6, .int .i64 0, .slice none 0 0, y', .slice none 0 0] := htc
      have huc : Turns (.pointer (some ⟨s2.next, 0, none⟩)) sb sc := Turns.ofPut hnxc hotc
      have hnec : ∀ j, FF y' j → idOf (.pointer (some ⟨s2.next, 0, none⟩)) ≠ some j := fun j hj e => by
        have e : some s2.next = some j := e
        injection e with e
        rw [hFF] at hj; have := hj.1; omega
      simp (config := { maxSteps := 1000000, implicitDefEqProofs := false }) (disch := omega) only [allW, allB, Nat.reduceSub, Nat.reduceLT, Nat.reduceEqDiff, ↓reduceIte, hn, h39, wrapI]
      refine wround_next (l.length - (i + 1)) (by omega) ⟨i + 1, y', LC ++ cs7, rfl, by omega, hyb.ofPut hnxc hotc hyb2, ?_, hFb, ((hb2'.keeps hst8a).turns hutb (fun e => by have := hyl _ e; omega)).ofPut hnxc hotc (by omega), htc, ?_, by simp only [n_put, hn], by simp only [get_put, ↓reduceIte, Nat.reduceEqDiff, h0], by simp only [get_put, ↓reduceIte, Nat.reduceEqDiff, h4], by simp only [get_put, ↓reduceIte, Nat.reduceEqDiff, h7], by simp only [get_put, ↓reduceIte, Nat.reduceEqDiff, h37], by simp only [get_put, ↓reduceIte, Nat.reduceEqDiff, h38], by simp only [get_put, ↓reduceIte]; rfl⟩
      · rw [List.take_add_one, List.getElem?_eq_getElem hlt, List.map_append]
        exact hR9.turns rowedO huc hnec
      · exact (((hst6.trans (hs68.weaken (by omega))).trans (hst8a.weaken (by omega))).trans ((hutb.keeps hyF (by omega)).weaken (by omega))).trans ⟨by omega, fun j hj => hotc j (by omega)⟩
    clear hn h0 h1 f ht3 ht5 hot5 ht15 ht25 l6
    rintro z f s6 ⟨rfl, y, LC, hy, hR, hyF, hb2', hb3', hst6, hn, h4, h7⟩
    have hn6 := hst6.next
    have la := Thing.loadO hb3' rfl
    have ok2 := hy.sees.okCell
    simp (config := { maxSteps := 1000000, implicitDefEqProofs := false }) (disch := omega) only [allW, Nat.reduceLT, Nat.reduceEqDiff, ↓reduceIte, hn, h4, h7, la]
    refine wstep_storeAll szO (by decide) hb2' rfl rfl rfl (by simp only [List.all_cons, List.all_nil, ok2]; rfl) ?_
    intro s7 ht7 hnx7 hot7
    have ht7 : Thing s7 s1.next [.int .i64 6, .int .i64 0, .slice none 0 0, y, .slice none 0 0] := ht7
    simp (config := { maxSteps := 1000000, implicitDefEqProofs := false }) (disch := omega) only [allW]
    refine fin _ _ [.int .i64 6, .int .i64 0, .slice none 0 0, y, .slice none 0 0] _ (by simp only [n_put, hn]) (by simp only [get_put, ↓reduceIte, Nat.reduceEqDiff, h4]) ht7 rfl ?_ ((hs5.trans (hst6.weaken (by omega))).trans ⟨by omega, fun j hj => hot7 j (by omega)⟩)
    have hu7 : Turns (.pointer (some ⟨s1.next, 0, none⟩)) s6 s7 := Turns.ofPut hnx7 hot7
    refine OIs.whole (.nil) (by rw [List.length_map]; exact (hy.sees.ofPut hnx7 hot7 (fun e => by have := hyF _ e; omega))) (.nil) (Foot.fresh (Fresh.nil _)) (Foot.of_id (fun j hj => by have := hyF _ hj; omega)) (Foot.fresh (Fresh.nil _)) ((hR.turns rowedO hu7 (fun j hj e => ?_)).mono rowedO (fun j hj => by rw [hFF] at hj; have := hj.1; omega)) ORows.nil
    have e : some s1.next = some j := e
    injection e with e
    rw [hFF] at hj; have := hj.1; omega
  by_cases k78 : kind = 7 ∨ kind = 8
  · rw [renO_dict r k78]
    simp (config := { maxSteps := 1000000, implicitDefEqProofs := false }) (disch := omega) only [allW, Nat.reduceLT, Nat.reduceEqDiff, ↓reduceIte, hn, hd6, of0, l0, eq_false k9, eq_false k6]
    refine wif_cutJ (fun f' s' => s2 = s' ∧ f'.n = 89 ∧ f'.get 0 = .pointer (some ⟨w, 0, some 13⟩) ∧ f'.get 3 = .pointer (some ⟨s.next, 0, some 6⟩) ∧ f'.get 4 = .pointer (some ⟨s1.next, 0, some 6⟩) ∧ f'.get 53 = .bool true) ?_ ?_
    · intro Q' hQ'
      by_cases k7 : kind = 7
      · simp (config := { maxSteps := 1000000, implicitDefEqProofs := false }) (disch := omega) only [allW, eq_true k7]
        exact hQ' _ _ ⟨rfl, by simp only [n_put, hn], by simp only [get_put, ↓reduceIte, Nat.reduceEqDiff, h0], by simp only [get_put, ↓reduceIte, Nat.reduceEqDiff], by simp only [get_put, ↓reduceIte, Nat.reduceEqDiff], by simp only [get_put, ↓reduceIte]⟩
      · have k8 : kind = 8 := k78.resolve_left k7
        simp (config := { maxSteps := 1000000, implicitDefEqProofs := false }) (disch := omega) only [allW, Nat.reduceLT, Nat.reduceEqDiff, ↓reduceIte, hn, eq_false k7, eq_true k8]
        exact hQ' _ _ ⟨rfl, by simp only [n_put, hn], by simp only [get_put, ↓reduceIte, Nat.reduceEqDiff, h0], by simp only [get_put, ↓reduceIte, Nat.reduceEqDiff], by simp only [get_put, ↓reduceIte, Nat.reduceEqDiff], by simp only [get_put, ↓reduceIte]⟩
    clear hn h0 h1 f
    rintro f _ ⟨rfl, hn, h0, h3, h4, h53⟩
    simp (config := { maxSteps := 1000000, implicitDefEqProofs := false }) (disch := omega) only [allW, Nat.reduceLT, ↓reduceIte, hn, h53]
    obtain ⟨A, hA⟩ : ∃ A : Nat → Bool, A = fun j => decide (j < s2.next) := ⟨_, rfl⟩
    have hAl : ∀ j, A j = true → j < s2.next := by
      intro j h
      rw [hA] at h
      exact of_decide_eq_true h
    have hAo : ∀ j, j < s2.next → A j = true := fun j h => by rw [hA]; exact decide_eq_true h
    refine LB.Drawn.looseK A hAl 1 1 (by kernel_rfl) (by kernel_rfl) ?_
    have hsp := Stay.spare s2 1
    have hnT : (spare s2 1).next = s2.next + 1 := spare_next _ _
    have ht13 := ht12.keeps hsp
    have hb2 := hb.keeps hs2
    have hlow : ∀ k, LA.lowV A (some (.pointer (some ⟨s.next, k, some 6⟩))) = true := fun k => LA.lowV_ptr (A := A) (i := s.next) (hAo _ ht12.lt)
    have q0 : loadA Try.prog (spare s2 1) 3 (.pointer (some ⟨s.next, 0, some 6⟩)) = some (.int .i64 kind) := ht13.load agInt (off := 0) (c := 6) rfl (by simp)
    have q2 : loadA Try.prog (spare s2 1) 22 (.pointer (some ⟨s.next, 2, some 6⟩)) = some bv := ht13.load agSl (off := 2) (c := 6) rfl (by simp)
    simp (config := { maxSteps := 1000000, implicitDefEqProofs := false }) (disch := omega) only [allW, allR, allL, allB, Nat.sub_self, evalAll, partsA, Nat.reduceLT, Nat.reduceEqDiff, ↓reduceIte, hn, h3, of0, of2, hlow, q0, q2, hb2.self]
    refine (clone_any hlb (spare s2 1) bv b (hb2.keeps hsp) (by omega)).mono ?_
    rintro bv' s3 ⟨hbo, hbF, hst3⟩
    have hn3 := hst3.next
    refine ⟨fun _ => LA.Stay.toA hAl (hst3.weaken (by omega)), ?_⟩
    have hself3 : valEq (.agg #[.int .i64 kind, .int .i64 0, bv', .slice none 0 0, .slice none 0 0]) (.agg #[.int .i64 kind, .int .i64 0, bv', .slice none 0 0, .slice none 0 0]) = true := valEq_agg5 (by simp [valEq1]) (by simp [valEq1]) hbo.sees.self1 (by simp [valEq1]) (by simp [valEq1])
    simp (config := { maxSteps := 1000000, implicitDefEqProofs := false }) (disch := omega) only [allW, allB, Nat.reduceLT, ↓reduceIte, hn, bO2 kind hbo.sees.cell1, hself3, zO, plO]
    refine LB.smake_newPtr (by omega) ?_
    intro s4 ht4 hnx4 hot4
    simp (config := { maxSteps := 1000000, implicitDefEqProofs := false }) (disch := omega) only [allW, allB, Nat.reduceLT, Nat.reduceEqDiff, ↓reduceIte, hn, hd6]
    have hvok := hbo.sees.okCell
    refine LB.sstep_storeAll szO (by decide) ht4 rfl rfl rfl (by simp only [List.all_cons, List.all_nil, hvok]; rfl) (fun h => absurd rfl h) ?_
    intro s5 ht5 hnx5 hot5
    have ht5 : Thing s5 s2.next [.int .i64 kind, .int .i64 0, bv', .slice none 0 0, .slice none 0 0] := ht5
    have hs25 : Stay s2.next s2 s5 := ((hsp.trans (hst3.weaken (by omega))).trans ⟨by omega, fun j hj => hot4 j (by omega)⟩).trans ⟨by omega, fun j hj => hot5 j (by omega)⟩
    have hs5 : Stay s.next s s5 := hs2.trans (hs25.weaken (by omega))
    have hbo5 : Own s5 1 bv' b.length (ofBytes b) := (hbo.ofPut hnx4 hot4 (fun e => by have := hbF _ e; omega)).ofPut hnx5 hot5 (fun e => by have := hbF _ e; omega)
    have hbi : ∀ j, idOf bv' = some j → s2.next + 1 ≤ j ∧ j < s5.next := fun j hj => ⟨by have := hbF j hj; omega, hbo5.idlt j hj⟩
    have ht15 := ht12.keeps hs25
    have ht25 := ht2.keeps hs25
    have hD5 := hD.keeps hs5
    have hn25 := hs25.next
    have ht5lt : s2.next < s5.next := ht5.lt
    have l6 : loadA Try.prog s5 24 (.pointer (some ⟨s.next, 4, some 6⟩)) = some dv := ht15.load agDs (off := 4) (c := 6) rfl (by simp)
    simp (config := { maxSteps := 1000000, implicitDefEqProofs := false }) (disch := omega) only [allW, allB, Nat.reduceSub, evalAll, Nat.reduceLT, Nat.reduceEqDiff, ↓reduceIte, hn, h3, of4, l6, hD5.lenA Try.underlying24]
    obtain ⟨FE, hFE⟩ : ∃ FE : Value → Nat → Prop, FE = fun v j => s5.next ≤ j ∧ ¬ (fun _ => False) j ∧ idOf v ≠ some j := ⟨_, rfl⟩
    refine Comes.loopOut (fun z f t6 => ∃ (i : Nat) (y : Value) (DC : List Value), z = d.length - i ∧ i ≤ d.length ∧ Own t6 6 y (renE r (d.take i)).length DC ∧ ORows EntIs 6 (FE y) t6 (renE r (d.take i)) DC ∧ Fresh s5.next y ∧ Own t6 1 bv' b.length (ofBytes b) ∧ Thing t6 s1.next noneC ∧ Thing t6 s2.next [.int .i64 kind, .int .i64 0, bv', .slice none 0 0, y] ∧ Stay s2.next s5 t6 ∧ f.n = 89 ∧ f.get 0 = .pointer (some ⟨w, 0, some 13⟩) ∧ f.get 4 = .pointer (some ⟨s1.next, 0, some 6⟩) ∧ f.get 10 = .pointer (some ⟨s2.next, 0, some 6⟩) ∧ f.get 63 = dv ∧ f.get 64 = .int .i64 (d.length : Nat) ∧ f.get 65 = .int .i64 (i : Nat))
      (fun z f t6 => z = .exit 3 ∧ ∃ (y : Value) (DC : List Value), Own t6 6 y (renE r d).length DC ∧ ORows EntIs 6 (FE y) t6 (renE r d) DC ∧ Fresh s5.next y ∧ Own t6 1 bv' b.length (ofBytes b) ∧ Thing t6 s1.next noneC ∧ Thing t6 s2.next [.int .i64 kind, .int .i64 0, bv', .slice none 0 0, y] ∧ Stay s2.next s5 t6 ∧ f.n = 89 ∧ f.get 4 = .pointer (some ⟨s1.next, 0, some 6⟩) ∧ f.get 10 = .pointer (some ⟨s2.next, 0, some 6⟩))
      ⟨0, .slice none 0 0, [], rfl, by omega, .nil, by rw [List.take_zero]; exact ORows.nil, Fresh.nil _, hbo5, ht25, ht5, Stay.refl _ _, by simp only [n_put, hn], by simp only [get_put, ↓reduceIte, Nat.reduceEqDiff, h0], by simp only [get_put, ↓reduceIte, Nat.reduceEqDiff, h4], by simp only [get_put, ↓reduceIte, Nat.reduceEqDiff], by simp only [get_put, ↓reduceIte, Nat.reduceEqDiff], by simp only [get_put, ↓reduceIte, Nat.reduceEqDiff], by simp only [get_put, ↓reduceIte]; rfl⟩ ?_ ?_
    · clear hn h0 h3 h4 h53 f hself3 ht4 ht5 hot4 hot5 hbo hbo5 ht15 ht25 l6 hlow ht13 hAl hAo hA A
      rintro Q hQ z f t6 ⟨i, y, DC, rfl, hi, hy, hR, hyF, hbv, hb2', hb3', hst6, hn, h0, h4, h10, h63, h64, h65⟩
      have hn6 := hst6.next
      have hs6 : Stay s2.next s2 t6 := hs25.trans hst6
      have hs06 : Stay s.next s t6 := hs2.trans (hs6.weaken (by omega))
      have hD6 := hD.keeps hs06
      by_cases hlt : i < d.length
      rotate_left
      · obtain rfl : i = d.length := by omega
        rw [List.take_length] at hR hy
        have d1 : ¬ ((d.length : Nat) : Int) < ((d.length : Nat) : Int) := by omega
        simp (config := { maxSteps := 1000000, implicitDefEqProofs := false }) (disch := omega) only [allW, Nat.reduceLT, ↓reduceIte, hn, h64, h65, eq_false d1]
        exact hQ _ _ _ ⟨rfl, y, DC, hy, hR, hyF, hbv, hb2', hb3', hst6, by simp only [n_put, hn], by simp only [get_put, ↓reduceIte, Nat.reduceEqDiff, h4], by simp only [get_put, ↓reduceIte, Nat.reduceEqDiff, h10]⟩
      have hle := renE_le r d i
      have hy2 : idOf y ≠ some s2.next := fun e => by have := hyF _ e; omega
      have d1 : (i : Int) < (d.length : Int) := by omega
      have hix := hD6.indexAddr (P := Try.prog) (k := .i64) (x := (i : Int)) Try.underlying24 szE (by omega) (by omega)
      rw [Int.toNat_natCast] at hix
      have hld := hD6.loadAgg (P := Try.prog) agE szE hlt
      obtain ⟨e0, hr1, hr2, hr3⟩ := rd.row i hlt
      have hrl := hr2.len
      have hoi := hr2.keeps hs06
      rw [hr1] at hld
      obtain ⟨xs, hxs⟩ : ∃ xs, xs = Value.string ⟨(d[i].1).toArray⟩ :: e0 := ⟨_, rfl⟩
      rw [← hxs] at hld
      have hxl : xs.length = 6 := by rw [hxs]; simp [hrl]
      have hxok : xs.all okCell = true := by rw [hxs, List.all_cons, hr2.ok]; rfl
      simp (config := { maxSteps := 1000000, implicitDefEqProofs := false }) (disch := omega) only [allW, Nat.reduceLT, Nat.reduceEqDiff, ↓reduceIte, hn, h63, h64, h65, eq_true d1, hix, hld, zE, plE]
      refine wstep_newPtr ?_
      intro s7 ht7 hst7 hnx7
      have hd7 : noneE.length + 1 = 7 := rfl
      simp (config := { maxSteps := 1000000, implicitDefEqProofs := false }) (disch := omega) only [allW, Nat.reduceLT, Nat.reduceEqDiff, ↓reduceIte, hn, hd7]
      refine wstep_storeAll szE (by decide) ht7 rfl rfl hxl hxok ?_
      intro s8 ht8 hnx8 hot8
      have ht8 : Thing s8 t6.next xs := ht8
      have hs68 : Stay t6.next t6 s8 := hst7.trans ⟨by omega, fun j hj => hot8 j (by omega)⟩
      have hn8 := hs68.next
      have hoi := hoi.keeps hs68
      have hwq := hw2.keeps (hs6.trans (hs68.weaken (by omega)))
      have ht8lt := ht8.lt
      have l9 : ∀ t, Stay s8.next s8 t → loadA Try.prog t 9 (.pointer (some ⟨t6.next, 0, some 7⟩)) = some (.string ⟨(d[i].1).toArray⟩) := fun t h => by
        have := (ht8.keeps h).load (P := Try.prog) agStr (off := 0) (c := 7) (by rw [hxl]) (by omega)
        rw [this, hxs]; rfl
      have l10 : loadA Try.prog s8 26 (.pointer (some ⟨t6.next, 1, some 7⟩)) = some (.agg e0.toArray) := by
        have := Thing.loadMid (P := Try.prog) agO szO ht8 (off := 1) (c := 7) (by rw [hxl]) (by omega)
        rw [this, hxs, List.drop_succ_cons, List.drop_zero, List.take_of_length_le (by omega)]
      simp (config := { maxSteps := 1000000, implicitDefEqProofs := false }) (disch := omega) only [allW, allR, evalAll, Nat.reduceLT, Nat.reduceEqDiff, ↓reduceIte, hn, h0, ofE1, l10]
      refine (ih d[i].2 (by have := O.ents_lt (k := kind) (n := num) (b := b) (l := l) (d := d) (List.getElem_mem hlt); omega) F s8 _ hwq hoi (hD1 _ (List.getElem_mem hlt))).mono ?_
      rintro _ s9 ⟨cs7, rfl, ho7, hst9⟩
      have hn9 := hst9.next
      have hl7 := ho7.len
      simp (config := { maxSteps := 1000000, implicitDefEqProofs := false }) (disch := omega) only [allW, Nat.reduceLT, ↓reduceIte, hn, zO, plO]
      refine wstep_newPtr ?_
      intro sa hta hsta hnxa
      simp (config := { maxSteps := 1000000, implicitDefEqProofs := false }) (disch := omega) only [allW, Nat.reduceLT, Nat.reduceEqDiff, ↓reduceIte, hn, hd6]
      refine wstep_storeAll szO (by decide) hta rfl rfl hl7 ho7.ok ?_
      intro sb htb hnxb hotb
      have htb : Thing sb s9.next cs7 := htb
      have hsab : Stay s9.next s9 sb := hsta.trans ⟨by omega, fun j hj => hotb j (by omega)⟩
      have hs8b : Stay s8.next s8 sb := hst9.trans (hsab.weaken hn9)
      have hs6b : Stay t6.next t6 sb := hs68.trans (hs8b.weaken hn8)
      have hnb := hsab.next
      have hob := ho7.keeps hsab
      have lk : loadA Try.prog sb 3 (.pointer (some ⟨s9.next, 0, some 6⟩)) = some (.int .i64 (renO r d[i].2).kind) := by
        have := htb.load (P := Try.prog) agInt (off := 0) (c := 6) (by rw [hl7]) (by omega)
        rw [this, hob.kind0]
      have hyb := hy.keeps hs6b
      have hRb := hR.keeps rowedE hs6b
      have hbvb := hbv.keeps hs6b
      have hb2b := hb2'.keeps hs6b
      have hb3b := hb3'.keeps hs6b
      have htk := renE_take r hlt
      by_cases hz : (renO r d[i].2).kind = 0
      · rw [if_pos hz] at htk
        simp (config := { maxSteps := 1000000, implicitDefEqProofs := false }) (disch := omega) only [allW, allR, Nat.reduceLT, Nat.reduceEqDiff, ↓reduceIte, hn, h65, of0, lk, hz, wrapI]
        exact wround_next (d.length - (i + 1)) (by omega) ⟨i + 1, y, DC, rfl, by omega, by rw [htk]; exact hyb, by rw [htk]; exact hRb, hyF, hbvb, hb2b, hb3b, hst6.trans (hs6b.weaken (by omega)), by simp only [n_put, hn], by simp only [get_put, ↓reduceIte, Nat.reduceEqDiff, h0], by simp only [get_put, ↓reduceIte, Nat.reduceEqDiff, h4], by simp only [get_put, ↓reduceIte, Nat.reduceEqDiff, h10], by simp only [get_put, ↓reduceIte, Nat.reduceEqDiff, h63], by simp only [get_put, ↓reduceIte, Nat.reduceEqDiff, h64], by simp only [get_put, ↓reduceIte]; rfl⟩
      rw [if_neg hz] at htk
      have l8 : loadA Try.prog sb 24 (.pointer (some ⟨s2.next, 4, some 6⟩)) = some y := hb3b.load agDs (off := 4) (c := 6) rfl (by simp)
      obtain ⟨es, hes⟩ : ∃ es, es = Value.string ⟨(d[i].1).toArray⟩ :: cs7 := ⟨_, rfl⟩
      have hel : es.length = 6 := by rw [hes]; simp [hl7]
      have hesok : es.all okCell = true := by rw [hes, List.all_cons, hob.ok]; rfl
      have hbE := bE d[i].1 hl7
      rw [← hes] at hbE
      simp (config := { maxSteps := 1000000, implicitDefEqProofs := false }) (disch := omega) only [allW, allR, partsA, Nat.reduceLT, Nat.reduceEqDiff, ↓reduceIte, hn, h10, of0, of4, ofE0, lk, hz, l8, l9 _ hs8b, Thing.loadO htb hl7, hbE, buildAgg1 (cs := es.toArray) Try.underlying24 szE zE plE rfl hel (by decide)]
      refine wstep_newSlice (by simp [hel]) ?_
      intro bs sc hbs hbF2 hstc
      have hnc := hstc.next
      have hyc := hyb.keeps hstc
      have hob := hob.keeps hstc
      have ho8 : EntIs (FE y) sc es (d[i].1, renO r d[i].2) := by
        refine ⟨cs7, hes, hob.mono (fun j hj => ?_), hr3⟩
        rw [hFE]; exact ⟨by omega, fun h => h, fun e => by have := hy.idlt _ e; omega⟩
      simp (config := { maxSteps := 1000000, implicitDefEqProofs := false }) (disch := omega) only [allW, evalAll, Nat.reduceLT, Nat.reduceEqDiff, ↓reduceIte, hn]
      refine wstep_append Try.underlying24 Try.underlying24 (.inl ⟨_, rfl⟩) szE byE zE rfl hyc hbs.sees.src hel (by decide) hesok (by omega) (by omega) hyF (by omega) ?_
      intro y' sd hyd hFd hstd hutd hor
      have hnd := hutd.next
      have hRc := hRb.keeps rowedE hstc
      rw [hFE] at hRc ho8
      have hR9 := hRc.grow rowedE hel ho8 hutd hor
      rw [show (fun j => s5.next ≤ j ∧ ¬ (fun _ => False) j ∧ idOf y' ≠ some j) = FE y' by rw [hFE]] at hR9
      have hyl : ∀ j, idOf y = some j → s5.next ≤ j := hyF
      have hbvd : Own sd 1 bv' b.length (ofBytes b) := (hbvb.keeps hstc).turns hutd (fun j hj e => by have := (hbi j hj).2; have := hyl _ e; omega)
      have hyd2 : idOf y' ≠ some s2.next := fun e => by have := hFd _ e; omega
      simp (config := { maxSteps := 1000000, implicitDefEqProofs := false }) (disch := omega) only [allW, Nat.reduceLT, Nat.reduceEqDiff, ↓reduceIte, hn, h10, of4]
      refine wstep_storeN szDs (by decide) ((hb3b.keeps hstc).turns hutd hy2) (off := 4) (c := 6) rfl (vs := [y']) hyd.sees.cell1 rfl (by simp) (by simp [hyd.sees.okCell]) ?_
      intro se hte hnxe hote
      have hte : Thing se s2.next [.int .i64 kind, .int .i64 0, bv', .slice none 0 0, y'] := hte
      have hue : Turns (.pointer (some ⟨s2.next, 0, none⟩)) sd se := Turns.ofPut hnxe hote
      have hnec : ∀ j, FE y' j → idOf (.pointer (some ⟨s2.next, 0, none⟩)) ≠ some j := fun j hj e => by
        have e : some s2.next = some j := e
        injection e with e
        rw [hFE] at hj; have := hj.1; omega
      simp (config := { maxSteps := 1000000, implicitDefEqProofs := false }) (disch := omega) only [allW, Nat.reduceLT, Nat.reduceEqDiff, ↓reduceIte, hn, h65, wrapI]
      refine wround_next (d.length - (i + 1)) (by omega) ⟨i + 1, y', DC ++ es, rfl, by omega, ?_, ?_, hFd, hbvd.ofPut hnxe hote (fun e => by have := (hbi _ e).1; omega), ((hb2b.keeps hstc).turns hutd (fun e => by have := hyl _ e; omega)).ofPut hnxe hote (by omega), hte, ?_, by simp only [n_put, hn], by simp only [get_put, ↓reduceIte, Nat.reduceEqDiff, h0], by simp only [get_put, ↓reduceIte, Nat.reduceEqDiff, h4], by simp only [get_put, ↓reduceIte, Nat.reduceEqDiff, h10], by simp only [get_put, ↓reduceIte, Nat.reduceEqDiff, h63], by simp only [get_put, ↓reduceIte, Nat.reduceEqDiff, h64], by simp only [get_put, ↓reduceIte]; rfl⟩
      · rw [htk, List.length_append, List.length_singleton]
        exact hyd.ofPut hnxe hote hyd2
      · rw [htk]; exact hR9.turns rowedE hue hnec
      · exact (((hst6.trans (hs6b.weaken (by omega))).trans (hstc.weaken (by omega))).trans ((hutd.keeps hyF (by omega)).weaken (by omega))).trans ⟨by omega, fun j hj => hote j (by omega)⟩
    clear hn h0 h3 h4 h53 f hself3 ht4 ht5 hot4 hot5 hbo hbo5 ht15 ht25 l6 hlow ht13 hAl hAo hA A
    rintro z f t6 ⟨rfl, y, DC, hy, hR, hyF, hbv, hb2', hb3', hst6, hn, h4, h10⟩
    have hn6 := hst6.next
    have la := Thing.loadO hb3' rfl
    have ok1 := hbv.sees.okCell
    have ok2 := hy.sees.okCell
    simp (config := { maxSteps := 1000000, implicitDefEqProofs := false }) (disch := omega) only [allW, Nat.reduceLT, Nat.reduceEqDiff, ↓reduceIte, hn, h4, h10, la]
    refine wstep_storeAll szO (by decide) hb2' rfl rfl rfl (by simp only [List.all_cons, List.all_nil, ok1, ok2]; rfl) ?_
    intro s7 ht7 hnx7 hot7
    have ht7 : Thing s7 s1.next [.int .i64 kind, .int .i64 0, bv', .slice none 0 0, y] := ht7
    simp (config := { maxSteps := 1000000, implicitDefEqProofs := false }) (disch := omega) only [allW]
    refine fin _ _ [.int .i64 kind, .int .i64 0, bv', .slice none 0 0, y] _ (by simp only [n_put, hn]) (by simp only [get_put, ↓reduceIte, Nat.reduceEqDiff, h4]) ht7 rfl ?_ ((hs5.trans (hst6.weaken (by omega))).trans ⟨by omega, fun j hj => hot7 j (by omega)⟩)
    have hu7 : Turns (.pointer (some ⟨s1.next, 0, none⟩)) t6 s7 := Turns.ofPut hnx7 hot7
    refine OIs.whole (hbv.ofPut hnx7 hot7 (fun e => by have := (hbi _ e).1; omega)).sees .nil (hy.sees.ofPut hnx7 hot7 (fun e => by have := hyF _ e; omega)) (Foot.of_id (fun j hj => by have := (hbi _ hj).1; omega)) (Foot.fresh (Fresh.nil _)) (Foot.of_id (fun j hj => by have := hyF _ hj; omega)) ORows.nil ((hR.turns rowedE hu7 (fun j hj e => ?_)).mono rowedE (fun j hj => by rw [hFE] at hj; have := hj.1; omega))
    have e : some s1.next = some j := e
    injection e with e
    rw [hFE] at hj; have := hj.1; omega
  rw [renO_else r k9 k6 k78]
  have k7 : ¬ kind = 7 := fun h => k78 (.inl h)
  have k8 : ¬ kind = 8 := fun h => k78 (.inr h)
  simp (config := { maxSteps := 1000000, implicitDefEqProofs := false }) (disch := omega) only [allW, allR, evalAll, Nat.reduceLT, Nat.reduceEqDiff, ↓reduceIte, hn, hd6, of0, l0, eq_false k9, eq_false k6, eq_false k7, eq_false k8, Thing.loadO ht12 hcl0]
  refine (copyO hlc hlb _ _ (Nat.le_refl _) F s2 _ (ho0.keeps hs2) hsm0).mono ?_
  intro v3 s3 h3
  obtain ⟨cs', rfl, ho3, hst3⟩ := h3.is
  have hcl := ho3.len
  simp (config := { maxSteps := 1000000, implicitDefEqProofs := false }) (disch := omega) only [allW, Nat.reduceLT, Nat.reduceEqDiff, ↓reduceIte, hn]
  refine wstep_storeAll szO (by decide) (ht2.keeps hst3) rfl rfl hcl ho3.ok ?_
  intro s4 ht4 hnx4 hot4
  simp (config := { maxSteps := 1000000, implicitDefEqProofs := false }) (disch := omega) only [allW]
  exact fin _ _ cs' _ (by simp only [n_put, hn]) (by simp only [get_put, ↓reduceIte, Nat.reduceEqDiff]) ht4 hcl (ho3.ofPut hnx4 hot4 (by omega)) ((hs2.trans (hst3.weaken (by omega))).trans ⟨by omega, fun j hj => hot4 j (by omega)⟩)
end Go.Proofs.Ythlbahnfimigcaa
namespace Go.Proofs.Ythlbahnfimigcaa
open Go.Cl Go.Lib
set_option maxHeartbeats 8000000 in
theorem rename_any {lib : Prims} (hl : lib.at 45 = none) (hlr : lib.at 31 = none) (hlb : lib.at 44 = none) (hlc : lib.at 53 = none) {r : List Int} (hr : r.Nodup) (m : Nat) (TM : List (Int × Value)) (hMT : MetTo r TM) :
    ∀ (N : Nat) (o : O), SizeOf.sizeOf o ≤ N → ∀ (F : Nat → Prop) (s : ASt) (cs : List Value), MapJ s m TM → OIs F s cs o → Small o →
    Runs Try.prog lib 45 [.agg cs.toArray, .map (some m)] s (NewO s (renO r o)) := by
  intro N
  induction N with
  | zero => intro o h; have := o.size_pos; omega
  | succ N ih =>
  intro o hN F s cs hw ho hsm
  have ho0 := ho
  have hsm0 := hsm
  have hcl0 := ho.len
  cases o with
  | mk kind num b l d =>
  obtain ⟨bv, lv, dv, lc, dc, rfl, hb, hL, hD, fb, fl, fd, rl, rd⟩ := ho.parts
  cases hsm with
  | mk hb1 hl2 hd1 hK1 hL1 hD1 =>
  refine Runs.enter 90 Try.func45 rfl hl rfl rfl ?_
  intro f hn hf
  have h0 : f.get 0 = .agg #[.int .i64 kind, .int .i64 num, bv, lv, dv] := hf 0
  have h1 : f.get 1 = .map (some m) := hf 1
  clear hf
  simp (config := { maxSteps := 1000000, implicitDefEqProofs := false }) (disch := omega) only [allW, Nat.reduceLT, ↓reduceIte, hn, h0]
  refine wstep_newPtr ?_
  intro s1 ht1 hst1 hnx1
  have hd6 : noneC.length + 1 = 6 := rfl
  simp (config := { maxSteps := 1000000, implicitDefEqProofs := false }) (disch := omega) only [allW, Nat.reduceLT, Nat.reduceAdd, ↓reduceIte, hn, List.length_cons, List.length_nil, zO, plO]
  refine wstep_newPtr ?_
  intro s2 ht2 hst2 hnx2
  have ht12 := ht1.keeps hst2
  have n1 := hst1.next
  have n2 := hst2.next
  have hs2 : Stay s.next s s2 := hst1.trans (hst2.weaken (by omega))
  have hw2 := hw.keeps hs2
  have l0 : loadA Try.prog s2 3 (.pointer (some ⟨s.next, 0, some 6⟩)) = some (.int .i64 kind) := ht12.load agInt (off := 0) (c := 6) rfl (by simp)
  have l1 : loadA Try.prog s2 2 (.pointer (some ⟨s.next, 1, some 6⟩)) = some (.int .i64 num) := ht12.load agI64 (off := 1) (c := 6) rfl (by simp)
  have fin : ∀ (f : AFr) (t : ASt) (cs' : List Value) (o' : O), f.n = 90 → f.get 4 = .pointer (some ⟨s1.next, 0, some 6⟩) → Thing t s1.next cs' → cs'.length = 5 → OIs (fun j => s2.next ≤ j) t cs' o' → Stay s.next s t → wfn Try.prog Try.f45.results.toList (NewO s o') .ret f t := by
    intro f t cs' o' hn h4 ht hl ho hst
    simp (config := { maxSteps := 1000000, implicitDefEqProofs := false }) (disch := omega) only [allW, wfn_ret, oneOf, Nat.reduceLT, ↓reduceIte, hn, h4, Thing.loadO ht hl, resultsA_cell, Try.results45]
    exact ⟨cs', rfl, ho.mono (fun j hj => by omega), hst⟩
  by_cases k9 : kind = 9
  · subst k9
    have hlk := hw2.get uMpJ uInt zInt plInt num
    rw [renO_ref]
    rw [hMT.new hr num] at hlk
    by_cases hin : num ∈ r
    · rw [if_pos hin] at hlk ⊢
      simp only [Option.getD_some] at hlk
      have hnz : ¬ newN r num = 0 := by
        obtain ⟨j, hj, e, -⟩ := newN_in hin
        omega
      simp (config := { maxSteps := 1000000, implicitDefEqProofs := false }) (disch := omega) only [allW, allR, evalAll, Nat.reduceLT, Nat.reduceEqDiff, ↓reduceIte, hn, h1, hd6, of0, of1, l0, l1, hlk, eq_false hnz]
      refine (rref_any hlr s2 (newN r num)).mono ?_
      rintro _ s3 ⟨cs', rfl, ho3, hst3⟩
      have hcl := ho3.len
      simp (config := { maxSteps := 1000000, implicitDefEqProofs := false }) (disch := omega) only [allW, Nat.reduceLT, Nat.reduceEqDiff, ↓reduceIte, hn]
      refine wstep_storeAll szO (by decide) (ht2.keeps hst3) rfl rfl hcl ho3.ok ?_
      intro s4 ht4 hnx4 hot4
      simp (config := { maxSteps := 1000000, implicitDefEqProofs := false }) (disch := omega) only [allW]
      exact fin _ _ cs' _ (by simp only [n_put, hn]) (by simp only [get_put, ↓reduceIte, Nat.reduceEqDiff]) ht4 hcl (ho3.ofPut hnx4 hot4 (by omega)) ((hs2.trans (hst3.weaken (by omega))).trans ⟨by omega, fun j hj => hot4 j (by omega)⟩)
    · rw [if_neg hin] at hlk ⊢
      simp only [Option.getD_none] at hlk
      simp (config := { maxSteps := 1000000, implicitDefEqProofs := false }) (disch := omega) only [allW, partsA, Nat.reduceLT, Nat.reduceEqDiff, ↓reduceIte, hn, h1, hd6, of0, of1, l0, l1, hlk, bO0]
      refine wstep_storeAll szO (by decide) ht2 rfl rfl rfl rfl ?_
      intro s4 ht4 hnx4 hot4
      simp (config := { maxSteps := 1000000, implicitDefEqProofs := false }) (disch := omega) only [allW]
      exact fin _ _ noneC _ (by simp only [n_put, hn]) (by simp only [get_put, ↓reduceIte, Nat.reduceEqDiff]) ht4 rfl (OIs.none _ _) (hs2.trans ⟨by omega, fun j hj => hot4 j (by omega)⟩)
  by_cases k6 : kind = 6
  · subst k6
    rw [renO_arr]
    simp (config := { maxSteps := 1000000, implicitDefEqProofs := false }) (disch := omega) only [allW, partsA, Nat.reduceLT, Nat.reduceEqDiff, ↓reduceIte, hn, hd6, of0, l0, eq_false k9, bO1, zO, plO]
    refine wstep_newPtr ?_
    intro s3 ht3 hst3 hnx3
    simp (config := { maxSteps := 1000000, implicitDefEqProofs := false }) (disch := omega) only [allW, Nat.reduceLT, Nat.reduceEqDiff, ↓reduceIte, hn, hd6]
    refine wstep_storeAll szO (by decide) ht3 rfl rfl rfl rfl ?_
    intro s5 ht5 hnx5 hot5
    have ht5 : Thing s5 s2.next [.int .i64 6, .int .i64 0, .slice none 0 0, .slice none 0 0, .slice none 0 0] := ht5
    have hs25 : Stay s2.next s2 s5 := hst3.trans ⟨by omega, fun j hj => hot5 j (by omega)⟩
    have hs5 : Stay s.next s s5 := hs2.trans (hs25.weaken (by omega))
    have ht15 := ht12.keeps hs25
    have ht25 := ht2.keeps hs25
    have hn25 := hs25.next
    have ht5lt : s2.next < s5.next := ht5.lt
    simp (config := { maxSteps := 1000000, implicitDefEqProofs := false }) (disch := omega) only [allW, Nat.reduceLT, ↓reduceIte, hn]
    obtain ⟨FF, hFF⟩ : ∃ FF : Value → Nat → Prop, FF = fun v j => s5.next ≤ j ∧ ¬ (fun _ => False) j ∧ idOf v ≠ some j := ⟨_, rfl⟩
    refine Comes.loopOut (fun z f s6 => ∃ (i : Nat) (y : Value) (LC : List Value), z = l.length - i ∧ i ≤ l.length ∧ Own s6 5 y i LC ∧ ORows OIs 5 (FF y) s6 ((l.take i).map (renO r)) LC ∧ Fresh s5.next y ∧ Thing s6 s.next [.int .i64 6, .int .i64 num, bv, lv, dv] ∧ Thing s6 s1.next noneC ∧ Thing s6 s2.next [.int .i64 6, .int .i64 0, .slice none 0 0, y, .slice none 0 0] ∧ Stay s2.next s5 s6 ∧ f.n = 90 ∧ f.get 1 = .map (some m) ∧ f.get 2 = .pointer (some ⟨s.next, 0, some 6⟩) ∧ f.get 4 = .pointer (some ⟨s1.next, 0, some 6⟩) ∧ f.get 6 = .pointer (some ⟨s2.next, 0, some 6⟩) ∧ f.get 7 = .int .i64 (i : Nat))
      (fun z f s6 => z = .exit 1 ∧ ∃ (y : Value) (LC : List Value), Own s6 5 y l.length LC ∧ ORows OIs 5 (FF y) s6 (l.map (renO r)) LC ∧ Fresh s5.next y ∧ Thing s6 s1.next noneC ∧ Thing s6 s2.next [.int .i64 6, .int .i64 0, .slice none 0 0, y, .slice none 0 0] ∧ Stay s2.next s5 s6 ∧ f.n = 90 ∧ f.get 4 = .pointer (some ⟨s1.next, 0, some 6⟩) ∧ f.get 6 = .pointer (some ⟨s2.next, 0, some 6⟩))
      ⟨0, .slice none 0 0, [], rfl, by omega, .nil, by rw [List.take_zero]; exact ORows.nil, Fresh.nil _, ht15, ht25, ht5, Stay.refl _ _, by simp only [n_put, hn], by simp only [get_put, ↓reduceIte, Nat.reduceEqDiff, h1], by simp only [get_put, ↓reduceIte, Nat.reduceEqDiff], by simp only [get_put, ↓reduceIte, Nat.reduceEqDiff], by simp only [get_put, ↓reduceIte, Nat.reduceEqDiff], by simp only [get_put, ↓reduceIte]; rfl⟩ ?_ ?_
    · clear hn h0 h1 f ht3 ht5 hot5 ht15 ht25
      rintro Q hQ z f s6 ⟨i, y, LC, rfl, hi, hy, hR, hyF, hb1', hb2', hb3', hst6, hn, h1, h2, h4, h6, h7⟩
      have hn6 := hst6.next
      have hs6 : Stay s2.next s2 s6 := hs25.trans hst6
      have hs06 : Stay s.next s s6 := hs2.trans (hs6.weaken (by omega))
      have hL6 := hL.keeps hs06
      have l6 : loadA Try.prog s6 23 (.pointer (some ⟨s.next, 3, some 6⟩)) = some lv := hb1'.load agLs (off := 3) (c := 6) rfl (by simp)
      by_cases hlt : i < l.length
      rotate_left
      · obtain rfl : i = l.length := by omega
        rw [List.take_length] at hR
        have d1 : ¬ ((l.length : Nat) : Int) < ((l.length : Nat) : Int) := by omega
        simp (config := { maxSteps := 1000000, implicitDefEqProofs := false }) (disch := omega) only [allW, evalAll, Nat.reduceLT, Nat.reduceEqDiff, ↓reduceIte, hn, h2, h7, of3, l6, hL6.lenA Try.underlying23, eq_false d1]
        exact hQ _ _ _ ⟨rfl, y, LC, hy, hR, hyF, hb2', hb3', hst6, by simp only [n_put, hn], by simp only [get_put, ↓reduceIte, Nat.reduceEqDiff, h4], by simp only [get_put, ↓reduceIte, Nat.reduceEqDiff, h6]⟩
      have hy2 : idOf y ≠ some s2.next := fun e => by have := hyF _ e; omega
      have d1 : (i : Int) < (l.length : Int) := by omega
      simp (config := { maxSteps := 1000000, implicitDefEqProofs := false }) (disch := omega) only [allW, evalAll, Nat.reduceLT, Nat.reduceEqDiff, ↓reduceIte, hn, h2, h7, of3, l6, hL6.lenA Try.underlying23, eq_true d1]
      obtain ⟨A, hA⟩ : ∃ A : Nat → Bool, A = fun j => decide (j < s6.next) := ⟨_, rfl⟩
      have hAl : ∀ j, A j = true → j < s6.next := by
        intro j h
        rw [hA] at h
        exact of_decide_eq_true h
      have hAo : ∀ j, j < s6.next → A j = true := fun j h => by rw [hA]; exact decide_eq_true h
      refine LB.Drawn.looseK A hAl 1 1 (by kernel_rfl) (by kernel_rfl) ?_
      have hsp := Stay.spare s6 1
      have hnT : (spare s6 1).next = s6.next + 1 := spare_next _ _
      have hlow1 : ∀ k, LA.lowV A (some (.pointer (some ⟨s.next, k, some 6⟩))) = true := fun k => LA.lowV_ptr (A := A) (i := s.next) (hAo _ hb1'.lt)
      have hlow3 : ∀ k, LA.lowV A (some (.pointer (some ⟨s2.next, k, some 6⟩))) = true := fun k => LA.lowV_ptr (A := A) (i := s2.next) (hAo _ hb3'.lt)
      have l7 : loadA Try.prog (spare s6 1) 23 (.pointer (some ⟨s.next, 3, some 6⟩)) = some lv := (hb1'.keeps hsp).load agLs (off := 3) (c := 6) rfl (by simp)
      have l8 : loadA Try.prog (spare s6 1) 23 (.pointer (some ⟨s2.next, 3, some 6⟩)) = some y := (hb3'.keeps hsp).load agLs (off := 3) (c := 6) rfl (by simp)
      have hL7 := hL6.keeps hsp
      have hix := hL7.indexAddr (P := Try.prog) (k := .i64) (x := (i : Int)) Try.underlying23 szO (by omega) (by omega)
      rw [Int.toNat_natCast] at hix
      have hld := hL7.loadAgg (P := Try.prog) agO szO hlt
      have hoi := ((rl.row i hlt).keeps hs06).keeps hsp
      have hwq := (hw2.keeps hs6).keeps (hsp.weaken (by omega))
      simp (config := { maxSteps := 1000000, implicitDefEqProofs := false }) (disch := omega) only [allW, allR, allL, allB, Nat.sub_self, evalAll, partsA, Nat.reduceLT, Nat.reduceEqDiff, ↓reduceIte, hn, h1, h2, h6, h7, of3, hlow1, hlow3, l7, l8, hL7.self, hy.self, hix, hld, LA.lowV_elemOld hL6 hAo hlt, hoi.self, valEq_mapV]
      refine (ih l[i] (by have := O.items_lt (k := 6) (n := num) (b := b) (l := l) (d := d) (List.getElem_mem hlt); omega) F (spare s6 1) _ hwq hoi (hL1 _ (List.getElem_mem hlt))).mono ?_
      rintro _ s7 ⟨cs7, rfl, ho7, hst7⟩
      have hn7 := hst7.next
      refine ⟨fun _ => LA.Stay.toA hAl (hst7.weaken (by omega)), ?_⟩
      have hl7 := ho7.len
      simp (config := { maxSteps := 1000000, implicitDefEqProofs := false }) (disch := omega) only [buildAgg1 (cs := cs7.toArray) Try.underlying23 szO zO plO rfl hl7 (by decide)]
      refine LB.smake_newSlice (base := s6.next) hl7 (by omega) (Nat.le_refl _) ?_
      intro bs s8 hbs hid hst8 hnx8 hot8
      have hst68 : Stay s6.next s6 s8 := (hsp.trans (hst7.weaken (by omega))).trans hst8
      have hn8 := hst68.next
      have ho8 : OIs (FF y) s8 cs7 (renO r l[i]) := by
        refine (ho7.turns (u := .pointer (some ⟨s6.next, 0, none⟩)) (Turns.ofPut hnx8 hot8) (fun j hj e => ?_)).mono (fun j hj => ?_)
        · have e : some s6.next = some j := e
          injection e with e; omega
        · rw [hFF]; exact ⟨by omega, fun h => h, fun e => by have := hy.idlt _ e; omega⟩
      simp (config := { maxSteps := 1000000, implicitDefEqProofs := false }) (disch := omega) only [allW, allB, evalAll, Nat.reduceLT, Nat.reduceEqDiff, ↓reduceIte, hn]
      refine LB.sstep_append Try.underlying23 Try.underlying23 (.inl ⟨_, rfl⟩) szO byO zO rfl (hy.keeps hst68) hbs.sees.src hl7 (by decide) ho8.ok (by omega) (by omega) (base := s5.next) hyF (by omega) (fun h => absurd rfl h) (fun j hj => by have := hAl j hj; omega) ?_
      intro y' s9 hy9 hF9 hut9 hor
      have hn9 := hut9.next
      have hR8 := hR.keeps rowedO hst68
      rw [hFF] at hR8 ho8
      have hR9 := hR8.grow rowedO hl7 ho8 hut9 hor
      rw [show (fun j => s5.next ≤ j ∧ ¬ (fun _ => False) j ∧ idOf y' ≠ some j) = FF y' by rw [hFF]] at hR9
      have hyl : ∀ j, idOf y = some j → s5.next ≤ j := hyF
      have hy92 : idOf y' ≠ some s2.next := fun e => by have := hF9 _ e; omega
      simp (config := { maxSteps := 1000000, implicitDefEqProofs := false }) (disch := omega) only [allW, allL, allB, Nat.reduceSub, Nat.reduceLT, Nat.reduceEqDiff, ↓reduceIte, hn, h6, of3]
      refine LB.sstep_storeN szLs (by decide) ((hb3'.keeps hst68).turns hut9 hy2) (off := 3) (c := 6) rfl (vs := [y']) hy9.sees.cell1 rfl (by simp) (by simp [hy9.sees.okCell]) (fun h => absurd rfl h) ?_
      intro sa hta hnxa hota
      have hta : Thing sa s2.next [.int .i64 6, .int .i64 0, .slice none 0 0, y', .slice none 0 0] := hta
      have hua : Turns (.pointer (some ⟨s2.next, 0, none⟩)) s9 sa := Turns.ofPut hnxa hota
      have hnea : ∀ j, FF y' j → idOf (.pointer (some ⟨s2.next, 0, none⟩)) ≠ some j := fun j hj e => by
        have e : some s2.next = some j := e
        injection e with e
        rw [hFF] at hj; have := hj.1; omega
      simp (config := { maxSteps := 1000000, implicitDefEqProofs := false }) (disch := omega) only [allW, allB, Nat.reduceSub, Nat.reduceLT, Nat.reduceEqDiff, ↓reduceIte, hn, h7, wrapI]
      refine wround_next (l.length - (i + 1)) (by omega) ⟨i + 1, y', LC ++ cs7, rfl, by omega, hy9.ofPut hnxa hota hy92, ?_, hF9, ((hb1'.keeps hst68).turns hut9 (fun e => by have := hyl _ e; omega)).ofPut hnxa hota (by omega), ((hb2'.keeps hst68).turns hut9 (fun e => by have := hyl _ e; omega)).ofPut hnxa hota (by omega), hta, ?_, by simp only [n_put, hn], by simp only [get_put, ↓reduceIte, Nat.reduceEqDiff, h1], by simp only [get_put, ↓reduceIte, Nat.reduceEqDiff, h2], by simp only [get_put, ↓reduceIte, Nat.reduceEqDiff, h4], by simp only [get_put, ↓reduceIte, Nat.reduceEqDiff, h6], by simp only [get_put, ↓reduceIte]; rfl⟩
      · rw [List.take_add_one, List.getElem?_eq_getElem hlt, List.map_append]
        exact hR9.turns rowedO hua hnea
      · exact ((hst6.trans (hst68.weaken (by omega))).trans ((hut9.keeps hyF (by omega)).weaken (by omega))).trans ⟨by omega, fun j hj => hota j (by omega)⟩
    clear hn h0 h1 f ht3 ht5 hot5 ht15 ht25
    rintro z f s6 ⟨rfl, y, LC, hy, hR, hyF, hb2', hb3', hst6, hn, h4, h6⟩
    have hn6 := hst6.next
    have la := Thing.loadO hb3' rfl
    have ok2 := hy.sees.okCell
    simp (config := { maxSteps := 1000000, implicitDefEqProofs := false }) (disch := omega) only [allW, Nat.reduceLT, Nat.reduceEqDiff, ↓reduceIte, hn, h4, h6, la]
    refine wstep_storeAll szO (by decide) hb2' rfl rfl rfl (by simp only [List.all_cons, List.all_nil, ok2]; rfl) ?_
    intro s7 ht7 hnx7 hot7
    have ht7 : Thing s7 s1.next [.int .i64 6, .int .i64 0, .slice none 0 0, y, .slice none 0 0] := ht7
    simp (config := { maxSteps := 1000000, implicitDefEqProofs := false }) (disch := omega) only [allW]
    refine fin _ _ [.int .i64 6, .int .i64 0, .slice none 0 0, y, .slice none 0 0] _ (by simp only [n_put, hn]) (by simp only [get_put, ↓reduceIte, Nat.reduceEqDiff, h4]) ht7 rfl ?_ ((hs5.trans (hst6.weaken (by omega))).trans ⟨by omega, fun j hj => hot7 j (by omega)⟩)
    have hu7 : Turns (.pointer (some ⟨s1.next, 0, none⟩)) s6 s7 := Turns.ofPut hnx7 hot7
    refine OIs.whole (.nil) (by rw [List.length_map]; exact (hy.sees.ofPut hnx7 hot7 (fun e => by have := hyF _ e; omega))) (.nil) (Foot.fresh (Fresh.nil _)) (Foot.of_id (fun j hj => by have := hyF _ hj; omega)) (Foot.fresh (Fresh.nil _)) ((hR.turns rowedO hu7 (fun j hj e => ?_)).mono rowedO (fun j hj => by rw [hFF] at hj; have := hj.1; omega)) ORows.nil
    have e : some s1.next = some j := e
    injection e with e
    rw [hFF] at hj; have := hj.1; omega
  by_cases k78 : kind = 7 ∨ kind = 8
  · rw [renO_dict r k78]
    simp (config := { maxSteps := 1000000, implicitDefEqProofs := false }) (disch := omega) only [allW, Nat.reduceLT, Nat.reduceEqDiff, ↓reduceIte, hn, hd6, of0, l0, eq_false k9, eq_false k6]
    refine wif_cutJ (fun f' s' => s2 = s' ∧ f'.n = 90 ∧ f'.get 1 = .map (some m) ∧ f'.get 2 = .pointer (some ⟨s.next, 0, some 6⟩) ∧ f'.get 4 = .pointer (some ⟨s1.next, 0, some 6⟩) ∧ f'.get 47 = .bool true) ?_ ?_
    · intro Q' hQ'
      by_cases k7 : kind = 7
      · simp (config := { maxSteps := 1000000, implicitDefEqProofs := false }) (disch := omega) only [allW, eq_true k7]
        exact hQ' _ _ ⟨rfl, by simp only [n_put, hn], by simp only [get_put, ↓reduceIte, Nat.reduceEqDiff, h1], by simp only [get_put, ↓reduceIte, Nat.reduceEqDiff], by simp only [get_put, ↓reduceIte, Nat.reduceEqDiff], by simp only [get_put, ↓reduceIte]⟩
      · have k8 : kind = 8 := k78.resolve_left k7
        simp (config := { maxSteps := 1000000, implicitDefEqProofs := false }) (disch := omega) only [allW, Nat.reduceLT, Nat.reduceEqDiff, ↓reduceIte, hn, eq_false k7, eq_true k8]
        exact hQ' _ _ ⟨rfl, by simp only [n_put, hn], by simp only [get_put, ↓reduceIte, Nat.reduceEqDiff, h1], by simp only [get_put, ↓reduceIte, Nat.reduceEqDiff], by simp only [get_put, ↓reduceIte, Nat.reduceEqDiff], by simp only [get_put, ↓reduceIte]⟩
    clear hn h0 h1 f
    rintro f _ ⟨rfl, hn, h1, h2, h4, h47⟩
    simp (config := { maxSteps := 1000000, implicitDefEqProofs := false }) (disch := omega) only [allW, Nat.reduceLT, ↓reduceIte, hn, h47]
    obtain ⟨A, hA⟩ : ∃ A : Nat → Bool, A = fun j => decide (j < s2.next) := ⟨_, rfl⟩
    have hAl : ∀ j, A j = true → j < s2.next := by
      intro j h
      rw [hA] at h
      exact of_decide_eq_true h
    have hAo : ∀ j, j < s2.next → A j = true := fun j h => by rw [hA]; exact decide_eq_true h
    refine LB.Drawn.looseK A hAl 1 1 (by kernel_rfl) (by kernel_rfl) ?_
    have hsp := Stay.spare s2 1
    have hnT : (spare s2 1).next = s2.next + 1 := spare_next _ _
    have ht13 := ht12.keeps hsp
    have hb2 := hb.keeps hs2
    have hlow : ∀ k, LA.lowV A (some (.pointer (some ⟨s.next, k, some 6⟩))) = true := fun k => LA.lowV_ptr (A := A) (i := s.next) (hAo _ ht12.lt)
    have q0 : loadA Try.prog (spare s2 1) 3 (.pointer (some ⟨s.next, 0, some 6⟩)) = some (.int .i64 kind) := ht13.load agInt (off := 0) (c := 6) rfl (by simp)
    have q2 : loadA Try.prog (spare s2 1) 22 (.pointer (some ⟨s.next, 2, some 6⟩)) = some bv := ht13.load agSl (off := 2) (c := 6) rfl (by simp)
    simp (config := { maxSteps := 1000000, implicitDefEqProofs := false }) (disch := omega) only [allW, allR, allL, allB, Nat.sub_self, evalAll, partsA, Nat.reduceLT, Nat.reduceEqDiff, ↓reduceIte, hn, h2, of0, of2, hlow, q0, q2, hb2.self]
    refine (copy_any hlb (spare s2 1) bv b (hb2.keeps hsp) (by omega)).mono ?_
    rintro bv' s3 ⟨hbo, hbF, hst3⟩
    have hn3 := hst3.next
    refine ⟨fun _ => LA.Stay.toA hAl (hst3.weaken (by omega)), ?_⟩
    have hself3 : valEq (.agg #[.int .i64 kind, .int .i64 0, bv', .slice none 0 0, .slice none 0 0]) (.agg #[.int .i64 kind, .int .i64 0, bv', .slice none 0 0, .slice none 0 0]) = true := valEq_agg5 (by simp [valEq1]) (by simp [valEq1]) hbo.sees.self1 (by simp [valEq1]) (by simp [valEq1])
    simp (config := { maxSteps := 1000000, implicitDefEqProofs := false }) (disch := omega) only [allW, allB, Nat.reduceLT, ↓reduceIte, hn, bO2 kind hbo.sees.cell1, hself3, zO, plO]
    refine LB.smake_newPtr (by omega) ?_
    intro s4 ht4 hnx4 hot4
    simp (config := { maxSteps := 1000000, implicitDefEqProofs := false }) (disch := omega) only [allW, allB, Nat.reduceLT, Nat.reduceEqDiff, ↓reduceIte, hn, hd6]
    have hvok := hbo.sees.okCell
    refine LB.sstep_storeAll szO (by decide) ht4 rfl rfl rfl (by simp only [List.all_cons, List.all_nil, hvok]; rfl) (fun h => absurd rfl h) ?_
    intro s5 ht5 hnx5 hot5
    have ht5 : Thing s5 s2.next [.int .i64 kind, .int .i64 0, bv', .slice none 0 0, .slice none 0 0] := ht5
    have hs25 : Stay s2.next s2 s5 := ((hsp.trans (hst3.weaken (by omega))).trans ⟨by omega, fun j hj => hot4 j (by omega)⟩).trans ⟨by omega, fun j hj => hot5 j (by omega)⟩
    have hs5 : Stay s.next s s5 := hs2.trans (hs25.weaken (by omega))
    have hbo5 : Own s5 1 bv' b.length (ofBytes b) := (hbo.ofPut hnx4 hot4 (fun e => by have := hbF _ e; omega)).ofPut hnx5 hot5 (fun e => by have := hbF _ e; omega)
    have hbi : ∀ j, idOf bv' = some j → s2.next + 1 ≤ j ∧ j < s5.next := fun j hj => ⟨by have := hbF j hj; omega, hbo5.idlt j hj⟩
    have ht15 := ht12.keeps hs25
    have ht25 := ht2.keeps hs25
    have hn25 := hs25.next
    have ht5lt : s2.next < s5.next := ht5.lt
    simp (config := { maxSteps := 1000000, implicitDefEqProofs := false }) (disch := omega) only [allW, allB, Nat.reduceSub, Nat.reduceLT, ↓reduceIte, hn]
    obtain ⟨FE, hFE⟩ : ∃ FE : Value → Nat → Prop, FE = fun v j => s5.next ≤ j ∧ ¬ (fun _ => False) j ∧ idOf v ≠ some j := ⟨_, rfl⟩
    refine Comes.loopOut (fun z f t6 => ∃ (i : Nat) (y : Value) (DC : List Value), z = d.length - i ∧ i ≤ d.length ∧ Own t6 6 y (renE r (d.take i)).length DC ∧ ORows EntIs 6 (FE y) t6 (renE r (d.take i)) DC ∧ Fresh s5.next y ∧ Own t6 1 bv' b.length (ofBytes b) ∧ Thing t6 s.next [.int .i64 kind, .int .i64 num, bv, lv, dv] ∧ Thing t6 s1.next noneC ∧ Thing t6 s2.next [.int .i64 kind, .int .i64 0, bv', .slice none 0 0, y] ∧ Stay s2.next s5 t6 ∧ f.n = 90 ∧ f.get 1 = .map (some m) ∧ f.get 2 = .pointer (some ⟨s.next, 0, some 6⟩) ∧ f.get 4 = .pointer (some ⟨s1.next, 0, some 6⟩) ∧ f.get 8 = .pointer (some ⟨s2.next, 0, some 6⟩) ∧ f.get 9 = .int .i64 (i : Nat))
      (fun z f t6 => z = .exit 3 ∧ ∃ (y : Value) (DC : List Value), Own t6 6 y (renE r d).length DC ∧ ORows EntIs 6 (FE y) t6 (renE r d) DC ∧ Fresh s5.next y ∧ Own t6 1 bv' b.length (ofBytes b) ∧ Thing t6 s1.next noneC ∧ Thing t6 s2.next [.int .i64 kind, .int .i64 0, bv', .slice none 0 0, y] ∧ Stay s2.next s5 t6 ∧ f.n = 90 ∧ f.get 4 = .pointer (some ⟨s1.next, 0, some 6⟩) ∧ f.get 8 = .pointer (some ⟨s2.next, 0, some 6⟩))
      ⟨0, .slice none 0 0, [], rfl, by omega, .nil, by rw [List.take_zero]; exact ORows.nil, Fresh.nil _, hbo5, ht15, ht25, ht5, Stay.refl _ _, by simp only [n_put, hn], by simp only [get_put, ↓reduceIte, Nat.reduceEqDiff, h1], by simp only [get_put, ↓reduceIte, Nat.reduceEqDiff, h2], by simp only [get_put, ↓reduceIte, Nat.reduceEqDiff, h4], by simp only [get_put, ↓reduceIte, Nat.reduceEqDiff], by simp only [get_put, ↓reduceIte]; rfl⟩ ?_ ?_
    · clear hn h1 h2 h4 h47 f hself3 ht4 ht5 hot4 hot5 hbo hbo5 ht15 ht25 hlow ht13 hAl hAo hA A
      rintro Q hQ z f t6 ⟨i, y, DC, rfl, hi, hy, hR, hyF, hbv, hb1', hb2', hb3', hst6, hn, h1, h2, h4, h8, h9⟩
      have hn6 := hst6.next
      have hs6 : Stay s2.next s2 t6 := hs25.trans hst6
      have hs06 : Stay s.next s t6 := hs2.trans (hs6.weaken (by omega))
      have hD6 := hD.keeps hs06
      have l6 : loadA Try.prog t6 24 (.pointer (some ⟨s.next, 4, some 6⟩)) = some dv := hb1'.load agDs (off := 4) (c := 6) rfl (by simp)
      by_cases hlt : i < d.length
      rotate_left
      · obtain rfl : i = d.length := by omega
        rw [List.take_length] at hR hy
        have d1 : ¬ ((d.length : Nat) : Int) < ((d.length : Nat) : Int) := by omega
        simp (config := { maxSteps := 1000000, implicitDefEqProofs := false }) (disch := omega) only [allW, evalAll, Nat.reduceLT, Nat.reduceEqDiff, ↓reduceIte, hn, h2, h9, of4, l6, hD6.lenA Try.underlying24, eq_false d1]
        exact hQ _ _ _ ⟨rfl, y, DC, hy, hR, hyF, hbv, hb2', hb3', hst6, by simp only [n_put, hn], by simp only [get_put, ↓reduceIte, Nat.reduceEqDiff, h4], by simp only [get_put, ↓reduceIte, Nat.reduceEqDiff, h8]⟩
      have hle := renE_le r d i
      have hy2 : idOf y ≠ some s2.next := fun e => by have := hyF _ e; omega
      have d1 : (i : Int) < (d.length : Int) := by omega
      have hix := hD6.indexAddr (P := Try.prog) (k := .i64) (x := (i : Int)) Try.underlying24 szE (by omega) (by omega)
      rw [Int.toNat_natCast] at hix
      obtain ⟨e0, hr1, hr2, hr3⟩ := rd.row i hlt
      have hrl := hr2.len
      have hoi := hr2.keeps hs06
      obtain ⟨hk6, hv6⟩ := chunk6 hr1
      obtain ⟨q0, q1⟩ := efE hD6 hlt
      have hlv := hD6.loadPart (P := Try.prog) agO szO hlt (j := 1) (by omega)
      rw [hv6] at hlv
      simp (config := { maxSteps := 1000000, implicitDefEqProofs := false }) (disch := omega) only [allW, allR, evalAll, Nat.reduceLT, Nat.reduceEqDiff, ↓reduceIte, hn, h1, h2, h9, of4, l6, hD6.lenA Try.underlying24, eq_true d1, hix, q1, hlv]
      refine (ih d[i].2 (by have := O.ents_lt (k := kind) (n := num) (b := b) (l := l) (d := d) (List.getElem_mem hlt); omega) F t6 _ (hw2.keeps hs6) hoi (hD1 _ (List.getElem_mem hlt))).mono ?_
      rintro _ s9 ⟨cs7, rfl, ho7, hst9⟩
      have hn9 := hst9.next
      have hl7 := ho7.len
      simp (config := { maxSteps := 1000000, implicitDefEqProofs := false }) (disch := omega) only [allW, Nat.reduceLT, ↓reduceIte, hn, zO, plO]
      refine wstep_newPtr ?_
      intro sa hta hsta hnxa
      simp (config := { maxSteps := 1000000, implicitDefEqProofs := false }) (disch := omega) only [allW, Nat.reduceLT, Nat.reduceEqDiff, ↓reduceIte, hn, hd6]
      refine wstep_storeAll szO (by decide) hta rfl rfl hl7 ho7.ok ?_
      intro sb htb hnxb hotb
      have htb : Thing sb s9.next cs7 := htb
      have hsab : Stay s9.next s9 sb := hsta.trans ⟨by omega, fun j hj => hotb j (by omega)⟩
      have hs6b : Stay t6.next t6 sb := hst9.trans (hsab.weaken hn9)
      have hnb := hsab.next
      have hob := ho7.keeps hsab
      have lk : loadA Try.prog sb 3 (.pointer (some ⟨s9.next, 0, some 6⟩)) = some (.int .i64 (renO r d[i].2).kind) := by
        have := htb.load (P := Try.prog) agInt (off := 0) (c := 6) (by rw [hl7]) (by omega)
        rw [this, hob.kind0]
      have hyb := hy.keeps hs6b
      have hRb := hR.keeps rowedE hs6b
      have hbvb := hbv.keeps hs6b
      have hb1b := hb1'.keeps hs6b
      have hb2b := hb2'.keeps hs6b
      have hb3b := hb3'.keeps hs6b
      have htk := renE_take r hlt
      by_cases hz : (renO r d[i].2).kind = 0
      · rw [if_pos hz] at htk
        simp (config := { maxSteps := 1000000, implicitDefEqProofs := false }) (disch := omega) only [allW, allR, Nat.reduceLT, Nat.reduceEqDiff, ↓reduceIte, hn, h9, of0, lk, hz, wrapI]
        exact wround_next (d.length - (i + 1)) (by omega) ⟨i + 1, y, DC, rfl, by omega, by rw [htk]; exact hyb, by rw [htk]; exact hRb, hyF, hbvb, hb1b, hb2b, hb3b, hst6.trans (hs6b.weaken (by omega)), by simp only [n_put, hn], by simp only [get_put, ↓reduceIte, Nat.reduceEqDiff, h1], by simp only [get_put, ↓reduceIte, Nat.reduceEqDiff, h2], by simp only [get_put, ↓reduceIte, Nat.reduceEqDiff, h4], by simp only [get_put, ↓reduceIte, Nat.reduceEqDiff, h8], by simp only [get_put, ↓reduceIte]; rfl⟩
      rw [if_neg hz] at htk
      obtain ⟨es, hes⟩ : ∃ es, es = Value.string ⟨(d[i].1).toArray⟩ :: cs7 := ⟨_, rfl⟩
      have hel : es.length = 6 := by rw [hes]; simp [hl7]
      have hesok : es.all okCell = true := by rw [hes, List.all_cons, hob.ok]; rfl
      have hself6 : valEq (.agg es.toArray) (.agg es.toArray) = true := by
        have := ho7.self
        rw [hes]
        match cs7, hl7, this with
        | [a, b, c, d, e], _, this =>
          simp [valEq, valEqL] at this ⊢
          exact ⟨by simp [valEq1], this⟩
      have hbE := bE d[i].1 hl7
      rw [← hes] at hbE
      simp (config := { maxSteps := 1000000, implicitDefEqProofs := false }) (disch := omega) only [allW, allR, Nat.reduceLT, ↓reduceIte, hn, of0, lk, hz]
      obtain ⟨A, hA⟩ : ∃ A : Nat → Bool, A = fun j => decide (j < sb.next) := ⟨_, rfl⟩
      have hAl : ∀ j, A j = true → j < sb.next := by
        intro j h
        rw [hA] at h
        exact of_decide_eq_true h
      have hAo : ∀ j, j < sb.next → A j = true := fun j h => by rw [hA]; exact decide_eq_true h
      refine LB.Drawn.looseK A hAl 0 1 (by kernel_rfl) (by kernel_rfl) ?_
      have hsp := Stay.spare sb 1
      have hnT : (spare sb 1).next = sb.next + 1 := spare_next _ _
      have hlow1 : ∀ k, LA.lowV A (some (.pointer (some ⟨s.next, k, some 6⟩))) = true := fun k => LA.lowV_ptr (A := A) (i := s.next) (hAo _ hb1b.lt)
      have hlow3 : ∀ k, LA.lowV A (some (.pointer (some ⟨s2.next, k, some 6⟩))) = true := fun k => LA.lowV_ptr (A := A) (i := s2.next) (hAo _ hb3b.lt)
      have hlow9 : ∀ k, LA.lowV A (some (.pointer (some ⟨s9.next, k, some 6⟩))) = true := fun k => LA.lowV_ptr (A := A) (i := s9.next) (hAo _ htb.lt)
      have l7 : loadA Try.prog (spare sb 1) 24 (.pointer (some ⟨s.next, 4, some 6⟩)) = some dv := (hb1b.keeps hsp).load agDs (off := 4) (c := 6) rfl (by simp)
      have l8 : loadA Try.prog (spare sb 1) 24 (.pointer (some ⟨s2.next, 4, some 6⟩)) = some y := (hb3b.keeps hsp).load agDs (off := 4) (c := 6) rfl (by simp)
      have hDb := hD6.keeps hs6b
      have hD7 := hDb.keeps hsp
      have hix7 := hD7.indexAddr (P := Try.prog) (k := .i64) (x := (i : Int)) Try.underlying24 szE (by omega) (by omega)
      rw [Int.toNat_natCast] at hix7
      obtain ⟨p0, p1⟩ := efE hD7 hlt
      have hlk := hD7.loadField (P := Try.prog) agStr hlt (j := 0) (by omega)
      rw [Nat.add_zero, hk6] at hlk
      simp (config := { maxSteps := 1000000, implicitDefEqProofs := false }) (disch := omega) only [allW, allL, allB, partsA, Nat.reduceLT, Nat.reduceEqDiff, ↓reduceIte, hn, h2, h8, h9, of4, hlow1, hlow3, hlow9, l7, l8, hD7.self, hy.self, hix7, p0, hlk, valEq_plus, LA.lowV_plus hDb hAo hlt, Thing.loadO (htb.keeps hsp) hl7, ho7.self, hbE, hself6, buildAgg1 (cs := es.toArray) Try.underlying24 szE zE plE rfl hel (by decide)]
      refine LB.smake_newSlice (base := sb.next) hel (by omega) (Nat.le_refl _) ?_
      intro bs s8 hbs hid hst8 hnx8 hot8
      have hst68 : Stay sb.next sb s8 := hsp.trans hst8
      have hn8 := hst68.next
      have ho8 : EntIs (FE y) s8 es (d[i].1, renO r d[i].2) := by
        refine ⟨cs7, hes, (hob.keeps hst68).mono (fun j hj => ?_), hr3⟩
        rw [hFE]; exact ⟨by omega, fun h => h, fun e => by have := hy.idlt _ e; omega⟩
      simp (config := { maxSteps := 1000000, implicitDefEqProofs := false }) (disch := omega) only [allW, allB, evalAll, Nat.reduceLT, Nat.reduceEqDiff, ↓reduceIte, hn]
      refine LB.sstep_append Try.underlying24 Try.underlying24 (.inl ⟨_, rfl⟩) szE byE zE rfl (hyb.keeps hst68) hbs.sees.src hel (by decide) hesok (by omega) (by omega) (base := s5.next) hyF (by omega) (fun h => absurd rfl h) (fun j hj => by have := hAl j hj; omega) ?_
      intro y' sd hyd hFd hutd hor
      have hnd := hutd.next
      have hRc := hRb.keeps rowedE hst68
      rw [hFE] at hRc ho8
      have hR9 := hRc.grow rowedE hel ho8 hutd hor
      rw [show (fun j => s5.next ≤ j ∧ ¬ (fun _ => False) j ∧ idOf y' ≠ some j) = FE y' by rw [hFE]] at hR9
      have hyl : ∀ j, idOf y = some j → s5.next ≤ j := hyF
      have hbvd : Own sd 1 bv' b.length (ofBytes b) := (hbvb.keeps hst68).turns hutd (fun j hj e => by have := (hbi j hj).2; have := hyl _ e; omega)
      have hyd2 : idOf y' ≠ some s2.next := fun e => by have := hFd _ e; omega
      simp (config := { maxSteps := 1000000, implicitDefEqProofs := false }) (disch := omega) only [allW, allL, allB, Nat.reduceSub, Nat.reduceLT, Nat.reduceEqDiff, ↓reduceIte, hn, h8, of4]
      refine LB.sstep_storeN szDs (by decide) ((hb3b.keeps hst68).turns hutd hy2) (off := 4) (c := 6) rfl (vs := [y']) hyd.sees.cell1 rfl (by simp) (by simp [hyd.sees.okCell]) (fun h => absurd rfl h) ?_
      intro se hte hnxe hote
      have hte : Thing se s2.next [.int .i64 kind, .int .i64 0, bv', .slice none 0 0, y'] := hte
      have hue : Turns (.pointer (some ⟨s2.next, 0, none⟩)) sd se := Turns.ofPut hnxe hote
      have hnec : ∀ j, FE y' j → idOf (.pointer (some ⟨s2.next, 0, none⟩)) ≠ some j := fun j hj e => by
        have e : some s2.next = some j := e
        injection e with e
        rw [hFE] at hj; have := hj.1; omega
      simp (config := { maxSteps := 1000000, implicitDefEqProofs := false }) (disch := omega) only [allW, allB, Nat.reduceSub, Nat.reduceLT, Nat.reduceEqDiff, ↓reduceIte, allW, Nat.reduceLT, Nat.reduceEqDiff, ↓reduceIte, hn, h9, wrapI]
      refine wround_next (d.length - (i + 1)) (by omega) ⟨i + 1, y', DC ++ es, rfl, by omega, ?_, ?_, hFd, hbvd.ofPut hnxe hote (fun e => by have := (hbi _ e).1; omega), ((hb1b.keeps hst68).turns hutd (fun e => by have := hyl _ e; omega)).ofPut hnxe hote (by omega), ((hb2b.keeps hst68).turns hutd (fun e => by have := hyl _ e; omega)).ofPut hnxe hote (by omega), hte, ?_, by simp only [n_put, hn], by simp only [get_put, ↓reduceIte, Nat.reduceEqDiff, h1], by simp only [get_put, ↓reduceIte, Nat.reduceEqDiff, h2], by simp only [get_put, ↓reduceIte, Nat.reduceEqDiff, h4], by simp only [get_put, ↓reduceIte, Nat.reduceEqDiff, h8], by simp only [get_put, ↓reduceIte]; rfl⟩
      · rw [htk, List.length_append, List.length_singleton]
        exact hyd.ofPut hnxe hote hyd2
      · rw [htk]; exact hR9.turns rowedE hue hnec
      · exact (((hst6.trans (hs6b.weaken (by omega))).trans (hst68.weaken (by omega))).trans ((hutd.keeps hyF (by omega)).weaken (by omega))).trans ⟨by omega, fun j hj => hote j (by omega)⟩
    clear hn h1 h2 h4 h47 f hself3 ht4 ht5 hot4 hot5 hbo hbo5 ht15 ht25 hlow ht13 hAl hAo hA A
    rintro z f t6 ⟨rfl, y, DC, hy, hR, hyF, hbv, hb2', hb3', hst6, hn, h4, h8⟩
    have hn6 := hst6.next
    have la := Thing.loadO hb3' rfl
    have ok1 := hbv.sees.okCell
    have ok2 := hy.sees.okCell
    simp (config := { maxSteps := 1000000, implicitDefEqProofs := false }) (disch := omega) only [allW, Nat.reduceLT, Nat.reduceEqDiff, ↓reduceIte, hn, h4, h8, la]
    refine wstep_storeAll szO (by decide) hb2' rfl rfl rfl (by simp only [List.all_cons, List.all_nil, ok1, ok2]; rfl) ?_
    intro s7 ht7 hnx7 hot7
    have ht7 : Thing s7 s1.next [.int .i64 kind, .int .i64 0, bv', .slice none 0 0, y] := ht7
    simp (config := { maxSteps := 1000000, implicitDefEqProofs := false }) (disch := omega) only [allW]
    refine fin _ _ [.int .i64 kind, .int .i64 0, bv', .slice none 0 0, y] _ (by simp only [n_put, hn]) (by simp only [get_put, ↓reduceIte, Nat.reduceEqDiff, h4]) ht7 rfl ?_ ((hs5.trans (hst6.weaken (by omega))).trans ⟨by omega, fun j hj => hot7 j (by omega)⟩)
    have hu7 : Turns (.pointer (some ⟨s1.next, 0, none⟩)) t6 s7 := Turns.ofPut hnx7 hot7
    refine OIs.whole (hbv.ofPut hnx7 hot7 (fun e => by have := (hbi _ e).1; omega)).sees .nil (hy.sees.ofPut hnx7 hot7 (fun e => by have := hyF _ e; omega)) (Foot.of_id (fun j hj => by have := (hbi _ hj).1; omega)) (Foot.fresh (Fresh.nil _)) (Foot.of_id (fun j hj => by have := hyF _ hj; omega)) ORows.nil ((hR.turns rowedE hu7 (fun j hj e => ?_)).mono rowedE (fun j hj => by rw [hFE] at hj; have := hj.1; omega))
    have e : some s1.next = some j := e
    injection e with e
    rw [hFE] at hj; have := hj.1; omega
  rw [renO_else r k9 k6 k78]
  have k7 : ¬ kind = 7 := fun h => k78 (.inl h)
  have k8 : ¬ kind = 8 := fun h => k78 (.inr h)
  simp (config := { maxSteps := 1000000, implicitDefEqProofs := false }) (disch := omega) only [allW, allR, evalAll, Nat.reduceLT, Nat.reduceEqDiff, ↓reduceIte, hn, hd6, of0, l0, eq_false k9, eq_false k6, eq_false k7, eq_false k8, Thing.loadO ht12 hcl0]
  refine (rcopyO hlc hlb _ _ (Nat.le_refl _) F s2 _ (ho0.keeps hs2) hsm0).mono ?_
  rintro _ s3 ⟨cs', rfl, ho3, hst3⟩
  have hcl := ho3.len
  simp (config := { maxSteps := 1000000, implicitDefEqProofs := false }) (disch := omega) only [allW, Nat.reduceLT, Nat.reduceEqDiff, ↓reduceIte, hn]
  refine wstep_storeAll szO (by decide) (ht2.keeps hst3) rfl rfl hcl ho3.ok ?_
  intro s4 ht4 hnx4 hot4
  simp (config := { maxSteps := 1000000, implicitDefEqProofs := false }) (disch := omega) only [allW]
  exact fin _ _ cs' _ (by simp only [n_put, hn]) (by simp only [get_put, ↓reduceIte, Nat.reduceEqDiff]) ht4 hcl (ho3.ofPut hnx4 hot4 (by omega)) ((hs2.trans (hst3.weaken (by omega))).trans ⟨by omega, fun j hj => hot4 j (by omega)⟩)
end Go.Proofs.Ythlbahnfimigcaa
