/-
  Documents: the reference's Reach; the next free number.
-/
import Derived.Test.YthlbahnfimigcaaDocI
set_option linter.unusedSimpArgs false
set_option linter.unusedVariables false
namespace Go.Cl
theorem Sees.cut_id {s : ASt} {z : Nat} {v : Value} {n : Nat} {l : List Value} (h : Sees s z v n l) (a b : Nat) : idOf (cutS z v a b) = idOf v := by
  cases h <;> rfl
def Once (l : List Int) (T : List (Int × Value)) : Prop := ∀ n, seekJ n T = if n ∈ l then some (.int .i64 1) else none
theorem Once.start : Once [] [] := fun n => by simp [seekJ]
theorem Once.snoc {l : List Int} {T : List (Int × Value)} (h : Once l T) (n : Int) : Once (l ++ [n]) (putJ n (.int .i64 1) T) := by
  intro m
  rw [seekJ_put]
  by_cases e : m = n
  · rw [if_pos e, if_pos (by rw [e]; exact List.mem_append_right _ (List.mem_singleton.2 rfl))]
  · rw [if_neg e, h m]
    by_cases hm : m ∈ l
    · rw [if_pos hm, if_pos (List.mem_append_left _ hm)]
    · rw [if_neg hm, if_neg (fun q => (List.mem_append.1 q).elim hm (fun q => e (List.mem_singleton.1 q)))]
theorem Sees.cutT {s : ASt} {v : Value} {n : Int} {M : List Int} (h : Sees s 1 v (M.length + 1) (intsV (n :: M))) : Sees s 1 (cutS 1 v 1 (M.length + 1)) M.length (intsV M) := by
  have := h.cut (lo := 1) (hi := M.length + 1) (by omega) (Nat.le_refl _)
  rw [Nat.add_sub_cancel, Nat.mul_one, Nat.mul_one] at this
  have e : ((intsV (n :: M)).drop 1).take M.length = intsV M := by
    show (intsV M).take M.length = intsV M
    rw [List.take_of_length_le (by rw [intsV_length]; exact Nat.le_refl _)]
  rw [e] at this
  exact this
end Go.Cl
namespace Go.Proofs.Ythlbahnfimigcaa
open Go.Cl Go.Lib
set_option maxHeartbeats 8000000 in
theorem rreach_any {lib : Prims} (hl : lib.at 26 = none) (hlf : lib.at 19 = none) (hlr : lib.at 11 = none) (F : Nat → Prop) (s : ASt) (D : Dc) (mv : Value) (tc : List Value) (iv : Value) (ic : List Value) (hD : DocIs F s mv tc iv ic D) (hs : SmallD D) (k0 : Nat) (r : List Int) (hw : WalksN D.items k0 (refsO D.trailer) [] r) (hk0 : k0 ≤ 10000000) :
    Runs Try.prog lib 26 [.agg (docC D mv tc iv).toArray] s (ReachR s r) := by
  have htl := hD.trailer.len
  have dl := db_len (D := D) (mv := mv) (iv := iv) htl
  have hrl := hw.size.2
  rw [List.length_nil, Nat.zero_add] at hrl
  have hst0 := hw.stack
  refine Runs.enter 50 Try.func26 rfl hl rfl rfl ?_
  intro f hn hf
  have h0 : f.get 0 = .agg (docC D mv tc iv).toArray := hf 0
  clear hf
  simp (config := { maxSteps := 1000000, implicitDefEqProofs := false }) (disch := omega) only [allW, Nat.reduceLT, ↓reduceIte, hn, h0]
  refine wstep_newPtr ?_
  intro s1 ht1 hst1 hnx1
  have ht1 : Thing s1 s.next (docC D mv tc iv) := ht1
  have n1 := hst1.next
  simp (config := { maxSteps := 1000000, implicitDefEqProofs := false }) (disch := omega) only [allW, Nat.reduceLT, Nat.reduceEqDiff, Nat.reduceAdd, ↓reduceIte, hn, dl]
  obtain ⟨s2, e2, hm2, hst2, hnx2⟩ := newMapJ s1
  have ht2 := ht1.keeps hst2
  have n2 := hst2.next
  have hs2 : Stay s.next s s2 := hst1.trans (hst2.weaken n1)
  rw [e2]
  simp (config := { maxSteps := 1000000, implicitDefEqProofs := false }) (disch := omega) only [allW, allR, evalAll, Nat.reduceLT, ↓reduceIte, hn, df3, db_trailer ht2 htl]
  refine (rrefs_any (lib := lib) hlr _ D.trailer (Nat.le_refl _) F s2 tc (hD.trailer.keeps hs2) hs.trailer (by omega)).mono ?_
  rintro x s3 ⟨hx, hxF, hst3⟩
  have n3 := hst3.next
  simp (config := { maxSteps := 1000000, implicitDefEqProofs := false }) (disch := omega) only [allW, Nat.reduceLT, ↓reduceIte, hn]
  refine Comes.loopOut (fun z f t => ∃ (st l : List Int) (x lv : Value) (TM : List (Int × Value)), WalksN D.items z st l r ∧ z ≤ k0 ∧ MapJ t s1.next TM ∧ Once l TM ∧ Own t 1 lv l.length (intsV l) ∧ Fresh s2.next lv ∧ Sees t 1 x st.length (intsV st) ∧ (∀ i, idOf x = some i → s2.next ≤ i ∧ idOf lv ≠ some i) ∧ Thing t s.next (docC D mv tc iv) ∧ Stay s1.next s1 t ∧ s2.next ≤ t.next ∧ f.n = 50 ∧ f.get 1 = .pointer (some ⟨s.next, 0, some 10⟩) ∧ f.get 3 = lv ∧ f.get 4 = .map (some s1.next) ∧ f.get 5 = x)
    (fun z f t => z = .exit 0 ∧ ∃ lv : Value, Own t 1 lv r.length (intsV r) ∧ Fresh s2.next lv ∧ Stay s1.next s1 t ∧ f.n = 50 ∧ f.get 3 = lv)
    ⟨refsO D.trailer, [], x, .slice none 0 0, [], hw, Nat.le_refl _, hm2.keeps hst3, Once.start, .nil, Fresh.nil _, hx.sees, fun i hi => ⟨hxF i hi, fun e => by cases e⟩, ht2.keeps hst3, hst2.trans (hst3.weaken n2), n3, by simp only [n_put, hn], by simp only [get_put, ↓reduceIte, Nat.reduceEqDiff], by simp only [get_put, ↓reduceIte, Nat.reduceEqDiff], by simp only [get_put, ↓reduceIte, Nat.reduceEqDiff], by simp only [get_put, ↓reduceIte]⟩ ?_ ?_
  · clear hn h0 f hx hxF hst3 n3 s3 x hst0
    rintro Q hQ z f t ⟨st, l, x, lv, TM, hw, hz, hM, hO, hlv, hlF, hx, hxA, htd, hst, hnt, hn, h1, h3, h4, h5⟩
    have hzl := hw.stack
    cases st with
    | nil =>
      have e := hw.only (WalksN.done l)
      subst e
      have d1 : ¬ (0 : Int) < ((([] : List Int).length : Nat) : Int) := by simp
      simp (config := { maxSteps := 1000000, implicitDefEqProofs := false }) (disch := omega) only [allW, allR, evalAll, Nat.reduceLT, ↓reduceIte, hn, h5, hx.lenA Try.underlying32, eq_false d1]
      exact hQ _ _ _ ⟨rfl, lv, hlv, hlF, hst, by simp only [n_put, hn], by simp only [get_put, ↓reduceIte, Nat.reduceEqDiff, h3]⟩
    | cons n st =>
    rw [List.length_cons] at hx hzl
    have d1 : (0 : Int) < ((st.length + 1 : Nat) : Int) := by omega
    have hln := hx.lenA (P := Try.prog) Try.underlying32 (s2 := t)
    have hix := hx.indexAddr (P := Try.prog) (k := .i64) (x := 0) Try.underlying32 szInt (by omega) (by omega)
    have hix : indexAddrA Try.prog 32 x (.int .i64 0) = some (elemPtr 1 x 0) := hix
    have hll := hx.load1 (P := Try.prog) agInt (k := 0) (by omega)
    have hll : loadA Try.prog t 3 (elemPtr 1 x 0) = some (.int .i64 n) := hll
    have hcut := hx.sliceLow (P := Try.prog) Try.underlying32 szInt (k := .i64) (x := 1) (by omega) (by omega)
    have hcut : sliceA Try.prog t 32 x (some (.int .i64 1)) none none = some (cutS 1 x 1 (st.length + 1)) := hcut
    have hx' := hx.cutT
    have hxA' : ∀ i, idOf (cutS 1 x 1 (st.length + 1)) = some i → s2.next ≤ i ∧ idOf lv ≠ some i := fun i hi => hxA i (by rw [← hx.cut_id 1 (st.length + 1)]; exact hi)
    generalize cutS 1 x 1 (st.length + 1) = x' at hcut hx' hxA'
    have hst' : Stay s.next s t := hst1.trans (hst.weaken n1)
    have hDt := hD.lows.keeps hst'
    simp (config := { maxSteps := 1000000, implicitDefEqProofs := false }) (disch := omega) only [allW, allR, evalAll, optA, Nat.reduceLT, Nat.reduceEqDiff, ↓reduceIte, hn, h1, h5, hln, eq_true d1, hix, hll, hcut, db_all htd htl]
    refine (rfind_any hlf _ t D mv tc iv ic hDt hs n).mono ?_
    rintro _ t1 ⟨cs, rfl, ho1, k1⟩
    have m1 := k1.next
    have hcl := ho1.len
    have hd6 : noneC.length + 1 = 6 := rfl
    simp (config := { maxSteps := 1000000, implicitDefEqProofs := false }) (disch := omega) only [allW, Nat.reduceLT, Nat.reduceEqDiff, ↓reduceIte, hn, ext0, ext1, zO, plO]
    refine wstep_newPtr ?_
    intro t2 ht2' hst2' hnx2'
    simp (config := { maxSteps := 1000000, implicitDefEqProofs := false }) (disch := omega) only [allW, Nat.reduceLT, Nat.reduceEqDiff, ↓reduceIte, hn, hd6]
    refine wstep_storeAll szO (by decide) ht2' rfl rfl hcl ho1.ok ?_
    intro t3 ht3 nt3 et3
    have ht3 : Thing t3 t1.next cs := ht3
    have m2 := hst2'.next
    have k13 : Stay t1.next t1 t3 := hst2'.trans ⟨by omega, fun j hj => et3 j (by omega)⟩
    have k03 : Stay t.next t t3 := k1.trans (k13.weaken m1)
    have m3 := k03.next
    have hM3 := hM.keeps k03
    have hl3 := hlv.keeps k03
    have hx3 := hx'.keeps k03
    have htd3 := htd.keeps k03
    have hst3 : Stay s1.next s1 t3 := hst.trans (k03.weaken (by omega))
    have hlk := hM3.get uMpJ uInt zInt plInt n
    rw [hO n] at hlk
    by_cases c1 : (findD D.items n).2 = false
    · obtain ⟨k, rfl, hw'⟩ : ∃ k, z = k + 1 ∧ WalksN D.items k st l r := by
        cases hw with
        | skip k _ _ _ _ h w' => exact ⟨k, rfl, w'⟩
        | meet k _ _ _ _ h1 h2 w' => rw [c1] at h1; cases h1
      rw [c1]
      simp (config := { maxSteps := 1000000, implicitDefEqProofs := false }) (disch := omega) only [allW, allR, Nat.reduceLT, Nat.reduceEqDiff, ↓reduceIte, undef, hn]
      exact wround_next k (by omega) ⟨st, l, x', lv, TM, hw', by omega, hM3, hO, hl3, hlF, hx3, hxA', htd3, hst3, by omega, by simp only [n_put, hn], by simp only [get_put, ↓reduceIte, Nat.reduceEqDiff, h1], by simp only [get_put, ↓reduceIte, Nat.reduceEqDiff, h3], by simp only [get_put, ↓reduceIte, Nat.reduceEqDiff, h4], by simp only [get_put, ↓reduceIte, Nat.reduceEqDiff]⟩
    have c1 : (findD D.items n).2 = true := by
      cases hq : (findD D.items n).2 with
      | true => rfl
      | false => exact absurd hq c1
    rw [c1]
    by_cases c2 : n ∈ l
    · obtain ⟨k, rfl, hw'⟩ : ∃ k, z = k + 1 ∧ WalksN D.items k st l r := by
        cases hw with
        | skip k _ _ _ _ h w' => exact ⟨k, rfl, w'⟩
        | meet k _ _ _ _ h1 h2 w' => exact absurd c2 h2
      rw [if_pos c2] at hlk
      simp only [Option.getD_some] at hlk
      have g1 : (1 : Int) > 0 := by decide
      simp (config := { maxSteps := 1000000, implicitDefEqProofs := false }) (disch := omega) only [allW, allR, Nat.reduceLT, Nat.reduceEqDiff, ↓reduceIte, undef, hn, h4, hlk, eq_true g1]
      exact wround_next k (by omega) ⟨st, l, x', lv, TM, hw', by omega, hM3, hO, hl3, hlF, hx3, hxA', htd3, hst3, by omega, by simp only [n_put, hn], by simp only [get_put, ↓reduceIte, Nat.reduceEqDiff, h1], by simp only [get_put, ↓reduceIte, Nat.reduceEqDiff, h3], by simp only [get_put, ↓reduceIte, Nat.reduceEqDiff, h4], by simp only [get_put, ↓reduceIte, Nat.reduceEqDiff]⟩
    obtain ⟨k, rfl, hw'⟩ : ∃ k, z = k + 1 ∧ WalksN D.items k (refsO (findD D.items n).1 ++ st) (l ++ [n]) r := by
      cases hw with
      | skip k _ _ _ _ h w' =>
        rcases h with h | h
        · rw [c1] at h; cases h
        · exact absurd h c2
      | meet k _ _ _ _ h1 h2 w' => exact ⟨k, rfl, w'⟩
    rw [if_neg c2] at hlk
    simp only [Option.getD_none] at hlk
    have g1 : ¬ (0 : Int) > 0 := by decide
    have hlr' := hw'.size.1
    rw [List.length_append, List.length_singleton] at hlr'
    have hrs := hw'.stack
    rw [List.length_append] at hrs
    simp (config := { maxSteps := 1000000, implicitDefEqProofs := false }) (disch := omega) only [allW, allR, Nat.reduceLT, Nat.reduceEqDiff, ↓reduceIte, undef, hn, h4, hlk, eq_false g1, wrapI]
    refine wstep_mapUpdateJ uMpJ uInt hM3 n (.int .i64 1) ?_
    intro t4 hM4 nt4 et4
    have hq : s1.next < s2.next := by omega
    have tq : Turns (.pointer (some ⟨s1.next, 0, none⟩)) t3 t4 := Turns.ofPut nt4 et4
    have hl4 := hl3.ofPut nt4 et4 (fun e => by have := hlF _ e; omega)
    have hx4 := hx3.turns tq (fun i _ hi e => by
      have e : some s1.next = some i := e
      injection e with e
      have := (hxA' i hi).1; omega)
    have htd4 := htd3.ofPut nt4 et4 (by omega)
    have ho3 := (ho1.keeps k13)
    have ho4 := ho3.ofPut nt4 et4 (fun h => by have := h.2; omega)
    have ht4 := ht3.ofPut nt4 et4 (by omega)
    have hst4 : Stay s1.next s1 t4 := hst3.trans ⟨by omega, fun j hj => et4 j (by omega)⟩
    simp (config := { maxSteps := 1000000, implicitDefEqProofs := false }) (disch := omega) only [allW, partsA, Nat.reduceLT, Nat.reduceEqDiff, ↓reduceIte, hn, h3, build1 Try.underlying32 szInt zInt]
    refine wstep_newSlice rfl ?_
    intro y t5 hy hyF hst5
    have m5 := hst5.next
    simp (config := { maxSteps := 1000000, implicitDefEqProofs := false }) (disch := omega) only [allW, evalAll, Nat.reduceLT, Nat.reduceEqDiff, ↓reduceIte, hn]
    refine wstep_append Try.underlying32 Try.underlying32 (.inl ⟨_, rfl⟩) szInt byInt zInt rfl (hl4.keeps hst5) hy.sees.src rfl (by decide) rfl (by omega) (by omega) hlF (by omega) ?_
    intro lv' t6 hl6 hlF6 hst6 htu6 hid6
    have m6 := hst6.next
    have hx6 := (hx4.keeps hst5).turns htu6 (fun i _ hi e => (hxA' i hi).2 e)
    have hst46 : Stay s2.next t4 t6 := (hst5.weaken (by omega)).trans hst6
    have ht6 := (ht4.keeps hst5).turns htu6 (fun e => by have := (hl4.idlt _ e); have := hlF _ e; have := hlv.idlt _ e; omega)
    have ho6 := ((ho4.keeps hst5).turns htu6 (fun j hj e => by have := hlF _ e; have := hj.2; omega))
    have hM6 := (hM4.keeps hst5).turns htu6 (fun e => by have := hlF _ e; omega)
    have htd6 := (htd4.keeps hst5).turns htu6 (fun e => by have := hlF _ e; omega)
    simp (config := { maxSteps := 1000000, implicitDefEqProofs := false }) (disch := omega) only [allW, partsA, Nat.reduceLT, ↓reduceIte, hn, build0 Try.underlying32 szInt zInt rfl rfl]
    refine wstep_newSlice rfl ?_
    intro y2 t7 hy2 hyF2 hst7
    have m7 := hst7.next
    have hsm : Small (findD D.items n).1 := by
      obtain ⟨e, he, -, h2⟩ := findD_mem c1
      rw [h2]; exact hs.items e he
    simp (config := { maxSteps := 1000000, implicitDefEqProofs := false }) (disch := omega) only [allW, allR, evalAll, Nat.reduceLT, Nat.reduceEqDiff, ↓reduceIte, hn, Thing.loadO (ht6.keeps hst7) hcl]
    refine (rrefs_any (lib := lib) hlr _ _ (Nat.le_refl _) _ t7 cs (ho6.keeps hst7) hsm (by omega)).mono ?_
    rintro y3 t8 ⟨hy3, hyF3, hst8⟩
    have m8 := hst8.next
    simp (config := { maxSteps := 1000000, implicitDefEqProofs := false }) (disch := omega) only [allW, evalAll, Nat.reduceLT, Nat.reduceEqDiff, ↓reduceIte, hn]
    refine wstep_append Try.underlying32 Try.underlying32 (.inl ⟨_, rfl⟩) szInt byInt zInt rfl (hy2.keeps hst8) hy3.sees.src (by rw [intsV_length, Nat.mul_one]) (by decide) (intsV_ok _) (by omega) (by omega) hyF2 (by omega) ?_
    intro y4 t9 hy4 hyF4 hst9 htu9 _
    have m9 := hst9.next
    rw [List.nil_append, Nat.zero_add] at hy4
    have k69 : Stay t6.next t6 t9 := (hst7.trans (hst8.weaken m7)).trans hst9
    simp (config := { maxSteps := 1000000, implicitDefEqProofs := false }) (disch := omega) only [allW, evalAll, Nat.reduceLT, Nat.reduceEqDiff, ↓reduceIte, hn]
    refine wstep_append Try.underlying32 Try.underlying32 (.inl ⟨_, rfl⟩) szInt byInt zInt rfl hy4 (hx6.keeps k69).src (by rw [intsV_length, Nat.mul_one]) (by decide) (intsV_ok _) (by omega) (by omega) hyF4 (by omega) ?_
    intro y5 t10 hy5 hyF5 hst10 _ _
    have k610 : Stay t6.next t6 t10 := k69.trans hst10
    have m10 := k610.next
    simp (config := { maxSteps := 1000000, implicitDefEqProofs := false }) (disch := omega) only [allW, Nat.reduceLT, ↓reduceIte, hn]
    exact wround_next k (by omega) ⟨refsO (findD D.items n).1 ++ st, l ++ [n], y5, lv', _, hw', by omega, hM6.keeps k610, hO.snoc n, by
      rw [List.length_append, intsV_append]; exact hl6.keeps k610, hlF6, by
      rw [List.length_append, intsV_append]; exact hy5.sees, fun i hi => ⟨by have := hyF5 i hi; omega, fun e => by have := hyF5 i hi; have := hl6.idlt i e; omega⟩, htd6.keeps k610, ((hst4.trans (hst46.weaken (by omega))).trans (k610.weaken (by omega))), by omega, by simp only [n_put, hn], by simp only [get_put, ↓reduceIte, Nat.reduceEqDiff, h1], by simp only [get_put, ↓reduceIte, Nat.reduceEqDiff], by simp only [get_put, ↓reduceIte, Nat.reduceEqDiff, h4], by simp only [get_put, ↓reduceIte]⟩
  clear hn h0 f
  rintro z f t ⟨rfl, lv, hlv, hlF, hst, hn, h3⟩
  simp (config := { maxSteps := 1000000, implicitDefEqProofs := false }) (disch := omega) only [allW, wfn_ret, oneOf, Nat.reduceLT, ↓reduceIte, hn, h3, Try.results26]
  exact ⟨hlv, fun i hi => by have := hlF i hi; omega, hst1.trans (hst.weaken n1)⟩
end Go.Proofs.Ythlbahnfimigcaa
