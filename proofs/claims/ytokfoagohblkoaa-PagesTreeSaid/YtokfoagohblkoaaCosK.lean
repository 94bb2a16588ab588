import Derived.Test.YtokfoagohblkoaaCosF
import Derived.Test.YtokfoagohblkoaaObjU
set_option linter.unusedSimpArgs false
set_option linter.unusedVariables false
set_option maxRecDepth 100000
namespace Go.Cl
theorem wif_cutJ {P : Program} {lib : Prims} {cA cB : Code} {f : AFr} {s : ASt} {Q : AX → AFr → ASt → Prop} {b : Bool} (J : AFr → ASt → Prop) (h1 : ∀ Q' : AX → AFr → ASt → Prop, (∀ f' s', J f' s' → Q' .normal f' s') → wif P lib cA cB f s Q' b) (h2 : ∀ f' s', J f' s' → Q .normal f' s') : wif P lib cA cB f s Q b := h1 Q h2
end Go.Cl
namespace Go.Proofs.Ytokfoagohblkoaa
open Go.Cl Go.Lib
def SortedR (s : ASt) (F : Nat → Prop) (D : List (List UInt8 × O)) (e : List UInt8 × O) (keep : Bool) (v : Value) (s' : ASt) : Prop := ∃ LC, Own s' 6 v (putK D e keep).length LC ∧ Fresh s.next v ∧ Stay s.next s s' ∧ ORows EntIs 6 (fun j => F j ∧ j < s.next) s' (putK D e keep) LC
set_option maxHeartbeats 8000000 in
theorem sorted_any {lib : Prims} (hl : lib.at 64 = none) (hl1 : lib.at 68 = none) (hl2 : lib.at 69 = none) (hld : lib.at 70 = none) (hli : lib.at 67 = none) (hlc : lib.at 71 = none)
    (hlk : lib.at 65 = none) (hls : lib.at 72 = none) (hlb : lib.at 73 = none) (hp : lib.at 74 = some pCmpStr)
    (F : Nat → Prop) (s : ASt) (x : Value) (D : List (List UInt8 × O)) (lx : List Value) (hx : Sees s 6 x D.length lx) (hD : ORows EntIs 6 F s D lx) (hn4 : D.length ≤ 500000) (e : List UInt8 × O) (ce : List Value) (he : EntIs F s ce e) (keep : Bool) :
    Runs Try.prog lib 64 [x, .agg ce.toArray, .func (.func 65) #[] #[], .bool keep] s (SortedR s F D e keep) := by
  obtain ⟨re, rfl, hre, hrk⟩ := he
  have qe := hre.len
  refine Runs.enter 39 Try.func64 rfl hl rfl rfl ?_
  intro f hn hf
  have h0 : f.get 0 = x := hf 0
  have h1 : f.get 1 = .agg (.string ⟨e.1.toArray⟩ :: re).toArray := hf 1
  have h2 : f.get 2 = .func (.func 65) #[] #[] := hf 2
  have h3 : f.get 3 = .bool keep := hf 3
  clear hf
  simp (config := { maxSteps := 1000000, implicitDefEqProofs := false }) (disch := omega) only [allW, allR, oneOf, evalAll, partsA, optA, Nat.reduceLT, Nat.reduceLeDiff, Nat.reduceEqDiff, Nat.reduceAdd, ↓reduceIte, hn, h0, h1, h2, h3]
  refine wstep_newPtr ?_
  intro s1 ht1 hst1 hnx1
  simp (config := { maxSteps := 1000000, implicitDefEqProofs := false }) (disch := omega) only [allW, allR, oneOf, evalAll, partsA, optA, Nat.reduceLT, Nat.reduceLeDiff, Nat.reduceEqDiff, Nat.reduceAdd, ↓reduceIte, hn, h0, h1, h2, h3, List.length_cons, qe]
  refine wstep_newPtr ?_
  intro s2 ht2 hst2 hnx2
  have ht12 := ht1.keeps hst2
  have hs2 : Stay s.next s s2 := hst1.trans (hst2.weaken (by omega))
  have hx2 := hx.keeps hs2
  have hd2 : (Value.func (Fn.func 65) #[] #[]).cells.toList.length + 1 = 2 := rfl
  have ht2 : Thing s2 s1.next [.func (.func 65) #[] #[]] := ht2
  simp (config := { maxSteps := 1000000, implicitDefEqProofs := false }) (disch := omega) only [allW, allR, oneOf, evalAll, partsA, optA, Nat.reduceLT, Nat.reduceLeDiff, Nat.reduceEqDiff, Nat.reduceAdd, ↓reduceIte, hn, h0, h1, h2, h3, List.length_cons, List.length_nil, hd2, aop_makeFunc, hx2.self]
  obtain ⟨p1, hp1⟩ : ∃ p1, p1 = onE D (fun y => !(lessB y.1 e.1)) := ⟨_, rfl⟩
  obtain ⟨q1, hq1⟩ : ∃ q1 : List UInt8 × O → Bool, q1 = fun y => y.1 == e.1 := ⟨_, rfl⟩
  refine (indexE hli 68 [.pointer (some ⟨s1.next, 0, some 2⟩), .pointer (some ⟨s.next, 0, some 7⟩)] s2 x D.length lx hx2 (by omega) p1 (fun i hi s' hs' => ?_)).mono ?_
  · obtain ⟨r, hr1, hr2, -⟩ := hD.row i hi
    rw [hr1]
    refine (clo1 hl1 hlk hls hlb hp s' D[i].1 e.1 r re hr2.len qe s1.next s.next (ht2.keeps hs') (ht12.keeps hs')).mono ?_
    rintro _ s'' ⟨rfl, h⟩
    refine ⟨?_, h⟩
    rw [hp1, onE_at hi]
    congr 1
    cases hlb : lessB D[i].1 e.1 with
    | false => exact decide_eq_true ((compareBytes_ge _ _).2 hlb)
    | true => exact decide_eq_false (fun h => by rw [(compareBytes_ge _ _).1 h] at hlb; cases hlb)
  rintro _ s3 ⟨⟨r, rfl, hr⟩, hs3⟩
  have hat : (r < 0 ∧ atE D e.1 = D.length) ∨ (r = (atE D e.1 : Nat) ∧ ¬ r < 0) := by
    rcases hr with ⟨rfl, hall⟩ | ⟨k, hk, rfl, k1, k2⟩
    · exact .inl ⟨by omega, atE_none (fun i hi => by have := hall i hi; rwa [hp1] at this)⟩
    · rw [hp1] at k1
      have := atE_some hk k1 (fun i hi => by have := k2 i hi; rwa [hp1] at this)
      exact .inr ⟨by rw [this], by omega⟩
  have hle := atE_le D e.1
  have hs03 := hs2.trans (hs3.weaken hs2.next)
  simp (config := { maxSteps := 1000000, implicitDefEqProofs := false }) (disch := omega) only [allW, allR, oneOf, evalAll, partsA, optA, Nat.reduceLT, Nat.reduceLeDiff, Nat.reduceEqDiff, Nat.reduceAdd, ↓reduceIte, hn, h0, h1, h2, h3]
  refine wif_cutJ (fun f' s' => s' = s3 ∧ f'.n = 39 ∧ f'.get 0 = x ∧ f'.get 3 = .bool keep ∧ f'.get 5 = .pointer (some ⟨s.next, 0, some 7⟩) ∧ f'.get 6 = .pointer (some ⟨s1.next, 0, some 2⟩) ∧ f'.get 9 = .int .i64 (atE D e.1 : Nat)) ?_ ?_
  · intro Q' hQ
    rcases hat with ⟨a1, a2⟩ | ⟨a1, a2⟩
    · simp (config := { maxSteps := 1000000, implicitDefEqProofs := false }) (disch := omega) only [allW, allR, oneOf, evalAll, partsA, optA, Nat.reduceLT, Nat.reduceLeDiff, Nat.reduceEqDiff, Nat.reduceAdd, ↓reduceIte, hn, h0, h1, h2, h3, eq_true a1, (hx2.keeps hs3).lenA Try.underlying29]
      exact hQ _ _ ⟨rfl, by simp only [get_put, n_put, ↓reduceIte, Nat.reduceEqDiff, hn], by simp only [get_put, n_put, ↓reduceIte, Nat.reduceEqDiff, h0], by simp only [get_put, n_put, ↓reduceIte, Nat.reduceEqDiff, h3], by simp only [get_put, n_put, ↓reduceIte, Nat.reduceEqDiff], by simp only [get_put, n_put, ↓reduceIte, Nat.reduceEqDiff], by simp only [get_put, n_put, ↓reduceIte, Nat.reduceEqDiff, a2]⟩
    · simp (config := { maxSteps := 1000000, implicitDefEqProofs := false }) (disch := omega) only [allW, allR, oneOf, evalAll, partsA, optA, Nat.reduceLT, Nat.reduceLeDiff, Nat.reduceEqDiff, Nat.reduceAdd, ↓reduceIte, hn, h0, h1, h2, h3, eq_false a2]
      exact hQ _ _ ⟨rfl, by simp only [get_put, n_put, ↓reduceIte, Nat.reduceEqDiff, hn], by simp only [get_put, n_put, ↓reduceIte, Nat.reduceEqDiff, h0], by simp only [get_put, n_put, ↓reduceIte, Nat.reduceEqDiff, h3], by simp only [get_put, n_put, ↓reduceIte, Nat.reduceEqDiff], by simp only [get_put, n_put, ↓reduceIte, Nat.reduceEqDiff], by simp only [get_put, n_put, ↓reduceIte, Nat.reduceEqDiff, a1]⟩
  clear hn h0 h1 h2 h3 f hat hr
  rintro f s4 ⟨rfl, hn, h0, h3, h5, h6, h9⟩
  obtain ⟨k, hk⟩ : ∃ k, k = atE D e.1 := ⟨_, rfl⟩
  rw [← hk] at h9 hle
  have hx4 := hx.keeps hs03
  have hsh := hx4.sliceHigh (P := Try.prog) Try.underlying29 szE (k := .i64) (y := (k : Int)) (by omega) (by omega)
  rw [Int.toNat_natCast] at hsh
  have hcut := hx4.cut (lo := 0) (hi := k) (by omega) hle
  rw [Nat.zero_mul, List.drop_zero, Nat.sub_zero] at hcut
  have hD1 := hD.take k hle
  have hD2 := hD.drop k hle
  simp (config := { maxSteps := 1000000, implicitDefEqProofs := false }) (disch := omega) only [allW, allR, oneOf, evalAll, partsA, optA, Nat.reduceLT, Nat.reduceLeDiff, Nat.reduceEqDiff, Nat.reduceAdd, ↓reduceIte, hn, h0, h3, h5, h6, h9, aop_makeFunc, hx4.self, hsh]
  have hlx := hD.len
  have hkz : k * 6 ≤ D.length * 6 := Nat.mul_le_mul_right 6 hle
  have htl : (D.take k).length = k := by rw [List.length_take]; omega
  have hdl : (D.drop k).length = D.length - k := List.length_drop ..
  refine (cloneE hlc s4 (cutS 6 x 0 k) k (lx.take (k * 6)) hcut (by omega) (rows_ok (by decide) k _ (by rw [List.length_take]; omega) (fun i hi => entOk (hD1.row i (by omega))))).mono ?_
  rintro y s5 ⟨hy, hyF, hs5⟩
  have hs05 := hs03.trans (hs5.weaken hs03.next)
  have hs25 : Stay s2.next s2 s5 := hs3.trans (hs5.weaken hs3.next)
  simp (config := { maxSteps := 1000000, implicitDefEqProofs := false }) (disch := omega) only [allW, allR, oneOf, evalAll, partsA, optA, Nat.reduceLT, Nat.reduceLeDiff, Nat.reduceEqDiff, Nat.reduceAdd, ↓reduceIte, hn, h0, h3, h5, h6, h9]
  refine (delNoneE hld hli 69 [.pointer (some ⟨s1.next, 0, some 2⟩), .pointer (some ⟨s.next, 0, some 7⟩)] s5 y k (lx.take (k * 6)) hy.sees (by omega) (fun _ => false) (fun i hi s' hs' => ?_) (fun _ _ => rfl)).mono ?_
  · obtain ⟨r, hr1, hr2, -⟩ := hD1.row i (by omega)
    rw [hr1]
    have hg : (D.take k)[i]'(by omega) = D[i]'(by omega) := List.getElem_take ..
    have hs2' := hs25.trans (hs'.weaken hs25.next)
    refine (clo2 hl2 hlk hls hlb hp s' _ e.1 r re hr2.len qe s1.next s.next (ht2.keeps hs2') (ht12.keeps hs2')).mono ?_
    rintro _ s'' ⟨rfl, h⟩
    refine ⟨?_, h⟩
    congr 1
    refine decide_eq_false (fun hc => ?_)
    have h1 := atE_less (D := D) (k := e.1) (i := i) (by omega) (by omega)
    have h2 := (compareBytes_eq _ _).1 hc
    rw [hg] at h2
    rw [h2, lessB_irrefl] at h1; cases h1
  rintro v s6 ⟨rfl, hs6⟩
  have hs06 := hs05.trans (hs6.weaken hs05.next)
  have hs26 := hs25.trans (hs6.weaken hs25.next)
  have hy6 := hy.keeps hs6
  have hyF : Fresh s2.next v := fun j hj => by have := hyF j hj; have := hs3.next; omega
  have hn2 := hs2.next
  obtain ⟨FB, hFB⟩ : ∃ FB : Nat → Prop, FB = fun j => F j ∧ j < s.next := ⟨_, rfl⟩
  have hDb : ORows EntIs 6 FB s D lx := by rw [hFB]; exact hD.below rowedE
  have hb1 := (hDb.take k hle).keeps rowedE hs06
  have heb : EntIs FB s (.string ⟨e.1.toArray⟩ :: re) e := by rw [hFB]; exact rowedE.below ⟨re, rfl, hre, hrk⟩
  have hnb : ∀ w : Value, Fresh s.next w → ∀ j, FB j → idOf w ≠ some j := fun w hw j hj e => by rw [hFB] at hj; have := hw _ e; omega
  simp (config := { maxSteps := 1000000, implicitDefEqProofs := false }) (disch := omega) only [allW, allR, oneOf, evalAll, partsA, optA, Nat.reduceLT, Nat.reduceLeDiff, Nat.reduceEqDiff, Nat.reduceAdd, ↓reduceIte, hn, h0, h3, h5, h6, h9]
  obtain ⟨D1, hD1e⟩ : ∃ D1, D1 = D.take k ++ (if keep then [e] else []) := ⟨_, rfl⟩
  have hD1n : D1.length ≤ D.length + 1 := by
    rw [hD1e, List.length_append, List.length_take]
    cases keep <;> simp <;> omega
  refine wif_cutJ (fun f' s' => ∃ (y : Value) (LY : List Value), Own s' 6 y D1.length LY ∧ ORows EntIs 6 FB s' D1 LY ∧ Fresh s2.next y ∧ Stay s2.next s2 s' ∧ f'.n = 39 ∧ f'.get 0 = x ∧ f'.get 9 = .int .i64 (k : Nat) ∧ f'.get 10 = .func (.func 69) #[] #[.pointer (some ⟨s1.next, 0, some 2⟩), .pointer (some ⟨s.next, 0, some 7⟩)] ∧ f'.get 11 = y) ?_ ?_
  · intro Q' hQ
    cases keep with
    | false =>
      rw [if_neg (by decide), List.append_nil] at hD1e
      simp (config := { maxSteps := 1000000, implicitDefEqProofs := false }) (disch := omega) only [allW, allR, oneOf, evalAll, partsA, optA, Nat.reduceLT, Nat.reduceLeDiff, Nat.reduceEqDiff, Nat.reduceAdd, ↓reduceIte, hn, h0, h3, h5, h6, h9]
      exact hQ _ _ ⟨v, _, by rw [hD1e, htl]; exact hy6, by rw [hD1e]; exact hb1, hyF, hs26, by simp only [get_put, n_put, ↓reduceIte, Nat.reduceEqDiff, hn], by simp only [get_put, n_put, ↓reduceIte, Nat.reduceEqDiff, h0], by simp only [get_put, n_put, ↓reduceIte, Nat.reduceEqDiff, h9], by simp only [get_put, n_put, ↓reduceIte, Nat.reduceEqDiff], by simp only [get_put, n_put, ↓reduceIte, Nat.reduceEqDiff]⟩
    | true =>
      rw [if_pos rfl] at hD1e
      have lE : loadA Try.prog s6 70 (.pointer (some ⟨s.next, 0, some 7⟩)) = some (.agg (.string ⟨e.1.toArray⟩ :: re).toArray) := Thing.loadAll agE (by simp [qe, szE]) (ht12.keeps hs26) (by simp [qe])
      obtain ⟨es, hes⟩ : ∃ es, es = Value.string ⟨e.1.toArray⟩ :: re := ⟨_, rfl⟩
      have hel : es.length = 6 := by rw [hes]; simp [qe]
      have hesok : es.all okCell = true := by rw [hes, List.all_cons, hre.ok]; rfl
      rw [← hes] at lE heb
      simp (config := { maxSteps := 1000000, implicitDefEqProofs := false }) (disch := omega) only [allW, allR, oneOf, evalAll, partsA, optA, Nat.reduceLT, Nat.reduceLeDiff, Nat.reduceEqDiff, Nat.reduceAdd, ↓reduceIte, hn, h0, h3, h5, h6, h9, lE, buildAgg1 (cs := es.toArray) Try.underlying29 szE zE plE rfl hel (by decide)]
      refine wstep_newSlice (by rw [hel]) ?_
      intro b s7 hb7 hbF7 hst7
      simp (config := { maxSteps := 1000000, implicitDefEqProofs := false }) (disch := omega) only [allW, allR, oneOf, evalAll, partsA, optA, Nat.reduceLT, Nat.reduceLeDiff, Nat.reduceEqDiff, Nat.reduceAdd, ↓reduceIte, hn, h0, h3, h5, h6, h9]
      refine wstep_append Try.underlying29 Try.underlying29 (.inl ⟨_, rfl⟩) szE byE zE rfl (hy6.keeps hst7) hb7.sees.src hel (by decide) hesok (by omega) (by omega) hyF (by have := hs26.next; have := hst7.next; omega) ?_
      intro y' s8 hy8 hyF8 hst8 htu8 _
      have hs28 : Stay s2.next s2 s8 := (hs26.trans (hst7.weaken hs26.next)).trans hst8
      have hs08 : Stay s.next s s8 := hs2.trans (hs28.weaken hs2.next)
      simp (config := { maxSteps := 1000000, implicitDefEqProofs := false }) (disch := omega) only [allW, allR, oneOf, evalAll, partsA, optA, Nat.reduceLT, Nat.reduceLeDiff, Nat.reduceEqDiff, Nat.reduceAdd, ↓reduceIte, hn, h0, h3, h5, h6, h9]
      exact hQ _ _ ⟨y', _, by rw [hD1e, List.length_append, htl]; exact hy8, by rw [hD1e]; exact ((hDb.take k hle).keeps rowedE hs08).snoc hel (rowedE.keeps heb hs08), hyF8, hs28, by simp only [get_put, n_put, ↓reduceIte, Nat.reduceEqDiff, hn], by simp only [get_put, n_put, ↓reduceIte, Nat.reduceEqDiff, h0], by simp only [get_put, n_put, ↓reduceIte, Nat.reduceEqDiff, h9], by simp only [get_put, n_put, ↓reduceIte, Nat.reduceEqDiff], by simp only [get_put, n_put, ↓reduceIte, Nat.reduceEqDiff]⟩
  clear hn h0 h3 h5 h6 h9 f
  rintro f s7 ⟨y, LY, hyo, hyr, hyF, hs27, hn, h0, h9, h10, h11⟩
  have hs07 : Stay s.next s s7 := hs2.trans (hs27.weaken hs2.next)
  have hx7 := hx.keeps hs07
  have hsl := hx7.sliceLow (P := Try.prog) Try.underlying29 szE (k := .i64) (x := (k : Int)) (by omega) (by omega)
  rw [Int.toNat_natCast] at hsl
  have hcut2 := hx7.cut (lo := k) (hi := D.length) hle (Nat.le_refl _)
  rw [List.take_of_length_le (by rw [List.length_drop, hlx, Nat.sub_mul]; omega)] at hcut2
  simp (config := { maxSteps := 1000000, implicitDefEqProofs := false }) (disch := omega) only [allW, allR, oneOf, evalAll, partsA, optA, Nat.reduceLT, Nat.reduceLeDiff, Nat.reduceEqDiff, Nat.reduceAdd, ↓reduceIte, hn, h0, h9, h10, h11, hyo.self, hx7.self, hsl]
  have hlxd : (lx.drop (k * 6)).length = (D.length - k) * 6 := by rw [List.length_drop, hlx, Nat.sub_mul]
  have hrow2 : ∀ i, i < D.length - k → (((lx.drop (k * 6)).drop (i * 6)).take 6).all okCell = true := fun i hi => entOk (hD2.row i (by omega))
  refine (cloneE hlc s7 _ (D.length - k) _ hcut2 (by omega) (rows_ok (by decide) _ _ hlxd hrow2)).mono ?_
  rintro w s8 ⟨hw, hwF, hs8⟩
  simp (config := { maxSteps := 1000000, implicitDefEqProofs := false }) (disch := omega) only [allW, allR, oneOf, evalAll, partsA, optA, Nat.reduceLT, Nat.reduceLeDiff, Nat.reduceEqDiff, Nat.reduceAdd, ↓reduceIte, hn, h0, h9, h10, h11, hw.self]
  have hs28 : Stay s2.next s2 s8 := hs27.trans (hs8.weaken hs27.next)
  have hs28n := hs27.next
  have hn78 := hs8.next
  refine (delE hld hli 69 [.pointer (some ⟨s1.next, 0, some 2⟩), .pointer (some ⟨s.next, 0, some 7⟩)] s8 w (D.length - k) _ hw (by omega) hrow2 (onE (D.drop k) (fun y => y.1 == e.1)) (fun i hi s' hs' => ?_)).mono ?_
  · obtain ⟨r, hr1, hr2, -⟩ := hD2.row i (by omega)
    rw [hr1]
    have hs2' := hs28.trans ((hs'.keeps hwF hn78).weaken hs28n)
    refine (clo2 hl2 hlk hls hlb hp s' _ e.1 r re hr2.len qe s1.next s.next (ht2.keeps hs2') (ht12.keeps hs2')).mono ?_
    rintro _ s'' ⟨rfl, h⟩
    refine ⟨?_, h⟩
    rw [onE_at (by omega)]
    congr 1
    rw [decide_eq_decide.2 (compareBytes_eq _ _)]
    by_cases q : (D.drop k)[i].1 = e.1
    · rw [decide_eq_true q]; exact (beq_iff_eq.2 q).symm
    · rw [decide_eq_false q]; exact (beq_eq_false_iff_ne.2 q).symm
  rintro u s9 ⟨hu, htu, hui⟩
  have hs79 : Stay s7.next s7 s9 := hs8.trans (htu.keeps hwF hn78)
  have hs09 : Stay s.next s s9 := hs07.trans (hs79.weaken hs07.next)
  obtain ⟨p2, hp2⟩ : ∃ p2, p2 = onE (D.drop k) (fun y => y.1 == e.1) := ⟨_, rfl⟩
  rw [← hp2] at hu
  have hkr := ((hDb.drop k hle).keeps rowedE hs09).kept p2 (D.length - k) (by omega)
  have hkc := keptC_len (l := lx.drop (k * 6)) (z := 6) p2 hlxd (D.length - k) (Nat.le_refl _)
  have hkn : (keptD (D.drop k) p2 (D.length - k)).length = keptN p2 (D.length - k) := by have := hkr.len; omega
  have hkl := keptN_le p2 (D.length - k)
  have hkf : keptD (D.drop k) p2 (D.length - k) = others e.1 (D.drop k) := by
    rw [keptD_filter (q := fun y => y.1 == e.1) (D.length - k) (by omega) (fun i hi => by rw [hp2, onE_at hi]), List.take_of_length_le (by omega)]
    rfl
  have hok2 : (keptC (lx.drop (k * 6)) 6 p2 (D.length - k)).all okCell = true := rows_ok (by decide) (keptN p2 (D.length - k)) _ hkc (fun i hi => entOk (hkr.row i (by omega)))
  simp (config := { maxSteps := 1000000, implicitDefEqProofs := false }) (disch := omega) only [allW, allR, oneOf, evalAll, partsA, optA, Nat.reduceLT, Nat.reduceLeDiff, Nat.reduceEqDiff, Nat.reduceAdd, ↓reduceIte, hn, h0, h9, h10, h11, hu.self]
  refine wstep_append Try.underlying29 Try.underlying29 (.inl ⟨_, rfl⟩) szE byE zE rfl (hyo.keeps hs79) hu.src hkc (by decide) hok2 (by omega) (by omega) hyF (by have := hs27.next; have := hs79.next; omega) ?_
  intro y' s10 hy10 hyF10 hst10 htu10 _
  have hs010 : Stay s.next s s10 := hs09.trans (hst10.weaken hs2.next)
  simp (config := { maxSteps := 1000000, implicitDefEqProofs := false }) (disch := omega) only [allW, allR, wfn_ret, wfn_normal, oneOf, evalAll, partsA, optA, Nat.reduceLT, Nat.reduceLeDiff, Nat.reduceEqDiff, Nat.reduceAdd, ↓reduceIte, hn, h0, h9, h10, h11, Try.results64]
  have hput : putK D e keep = D1 ++ others e.1 (D.drop k) := by
    unfold putK
    rw [← hk, hD1e]
    congr 2
    rw [hk, others_ahead]
  have hrows := (hyr.keeps rowedE hs79).append hkr
  rw [hkf, ← hput] at hrows
  refine ⟨LY ++ keptC (lx.drop (k * 6)) 6 p2 (D.length - k), ?_, fun j hj => by have := hyF10 j hj; omega, hs010, ?_⟩
  · rw [hput, List.length_append, ← hkf, hkn]; exact hy10
  · rw [hFB] at hrows
    exact hrows.turns rowedE htu10 (fun j hj e' => by have := hyF _ e'; have := hj.2; omega)
end Go.Proofs.Ytokfoagohblkoaa
set_option linter.unusedSimpArgs false
set_option linter.unusedVariables false
set_option maxRecDepth 100000
namespace Go.Proofs.Ytokfoagohblkoaa
open Go.Cl Go.Lib
def Has (s : ASt) (o : O) (v : Value) (s' : ASt) : Prop := v = .bool o.has ∧ Stay s.next s s'
theorem entries_any {lib : Prims} (hl : lib.at 43 = none) (F : Nat → Prop) (s : ASt) (cs : List Value) (o : O) (ho : OIs F s cs o) :
    Runs Try.prog lib 43 [.agg cs.toArray] s (Has s o) := by
  cases o with
  | mk kind num b l d =>
  obtain ⟨bv, lv, dv, lc, dc, rfl, -⟩ := ho.parts
  refine Runs.enter 11 Try.func43 rfl hl rfl rfl ?_
  intro f hn hf
  have h0 : f.get 0 = .agg #[.int .i64 kind, .int .i64 num, bv, lv, dv] := hf 0
  clear hf
  simp (config := { maxSteps := 1000000, implicitDefEqProofs := false }) (disch := omega) only [allW, allR, oneOf, evalAll, partsA, optA, Nat.reduceLT, Nat.reduceLeDiff, Nat.reduceEqDiff, Nat.reduceAdd, ↓reduceIte, hn, h0]
  refine wstep_newPtr ?_
  intro s1 ht1 hst1 hnx1
  have p0 : loadA Try.prog s1 3 (.pointer (some ⟨s.next, 0, some 6⟩)) = some (.int .i64 kind) := ht1.load agInt (off := 0) (c := 6) rfl (by simp)
  by_cases c7 : kind = 7
  · simp (config := { maxSteps := 1000000, implicitDefEqProofs := false }) (disch := omega) only [allW, allR, wfn_ret, wfn_normal, oneOf, evalAll, partsA, optA, Nat.reduceLT, Nat.reduceLeDiff, Nat.reduceEqDiff, Nat.reduceAdd, ↓reduceIte, hn, h0, List.length_cons, List.length_nil, of0, p0, eq_true c7, Try.results43]
    exact ⟨by simp [O.has, O.kind, c7], hst1⟩
  · simp (config := { maxSteps := 1000000, implicitDefEqProofs := false }) (disch := omega) only [allW, allR, wfn_ret, wfn_normal, oneOf, evalAll, partsA, optA, Nat.reduceLT, Nat.reduceLeDiff, Nat.reduceEqDiff, Nat.reduceAdd, ↓reduceIte, hn, h0, List.length_cons, List.length_nil, of0, p0, eq_false c7, Try.results43]
    exact ⟨by simp [O.has, O.kind, c7]; congr, hst1⟩
def NewE (s : ASt) (k : List UInt8) (o : O) (v : Value) (s' : ASt) : Prop := ∃ cs, v = .agg (.string ⟨k.toArray⟩ :: cs).toArray ∧ OIs (fun j => s.next ≤ j) s' cs o ∧ Stay s.next s s'
theorem pair_any {lib : Prims} (hl : lib.at 62 = none) (hlc : lib.at 42 = none) (hl1 : lib.at 61 = none) (F : Nat → Prop) (s : ASt) (k : List UInt8) (cs : List Value) (o : O) (ho : OIs F s cs o) (hsm : Small o) :
    Runs Try.prog lib 62 [.string ⟨k.toArray⟩, .agg cs.toArray] s (NewE s k o) := by
  have hcl := ho.len
  refine Runs.enter 9 Try.func62 rfl hl rfl rfl ?_
  intro f hn hf
  have h0 : f.get 0 = .string ⟨k.toArray⟩ := hf 0
  have h1 : f.get 1 = .agg cs.toArray := hf 1
  clear hf
  simp (config := { maxSteps := 1000000, implicitDefEqProofs := false }) (disch := omega) only [allW, allR, oneOf, evalAll, partsA, optA, Nat.reduceLT, Nat.reduceLeDiff, Nat.reduceEqDiff, Nat.reduceAdd, ↓reduceIte, hn, h0, h1]
  refine wstep_newPtr ?_
  intro s1 ht1 hst1 hnx1
  simp (config := { maxSteps := 1000000, implicitDefEqProofs := false }) (disch := omega) only [allW, allR, oneOf, evalAll, partsA, optA, Nat.reduceLT, Nat.reduceLeDiff, Nat.reduceEqDiff, Nat.reduceAdd, ↓reduceIte, hn, h0, h1, hcl, zE, plE]
  refine wstep_newPtr ?_
  intro s2 ht2 hst2 hnx2
  have hs2 : Stay s.next s s2 := hst1.trans (hst2.weaken (by omega))
  have la : loadA Try.prog s2 31 (.pointer (some ⟨s.next, 0, some 6⟩)) = some (.agg cs.toArray) := Thing.loadAll agO (by rw [hcl]; exact szO) (ht1.keeps hst2) (by rw [hcl])
  have hd7 : noneE.length + 1 = 7 := rfl
  simp (config := { maxSteps := 1000000, implicitDefEqProofs := false }) (disch := omega) only [allW, allR, oneOf, evalAll, partsA, optA, Nat.reduceLT, Nat.reduceLeDiff, Nat.reduceEqDiff, Nat.reduceAdd, ↓reduceIte, hn, h0, h1, la, hd7]
  refine (copyO hlc hl1 _ o (Nat.le_refl _) F s2 cs (ho.keeps hs2) hsm).mono ?_
  intro v s3 h3
  obtain ⟨cs', rfl, ho3, hst3⟩ := h3.is
  have hcl' := ho3.len
  obtain ⟨es, hes⟩ : ∃ es, es = Value.string ⟨k.toArray⟩ :: cs' := ⟨_, rfl⟩
  have hel : es.length = 6 := by rw [hes]; simp [hcl']
  have hesok : es.all okCell = true := by rw [hes, List.all_cons, ho3.ok]; rfl
  have hbE := bE k hcl'
  rw [← hes] at hbE
  simp (config := { maxSteps := 1000000, implicitDefEqProofs := false }) (disch := omega) only [allW, allR, oneOf, evalAll, partsA, optA, Nat.reduceLT, Nat.reduceLeDiff, Nat.reduceEqDiff, Nat.reduceAdd, ↓reduceIte, hn, h0, h1, hbE]
  refine wstep_storeAll szE (by decide) (ht2.keeps hst3) rfl rfl hel hesok ?_
  intro s4 ht4 hnx4 hot4
  have ht4 : Thing s4 s1.next es := ht4
  have l4 : loadA Try.prog s4 70 (.pointer (some ⟨s1.next, 0, some 7⟩)) = some (.agg es.toArray) := Thing.loadAll agE (by rw [hel]; exact szE) ht4 (by rw [hel])
  simp (config := { maxSteps := 1000000, implicitDefEqProofs := false }) (disch := omega) only [allW, allR, wfn_ret, wfn_normal, oneOf, evalAll, partsA, optA, Nat.reduceLT, Nat.reduceLeDiff, Nat.reduceEqDiff, Nat.reduceAdd, ↓reduceIte, hn, l4, resultsA_cell, Try.results62]
  have hn1 := hst1.next
  have hn2 := hst2.next
  refine ⟨cs', by rw [hes], (ho3.turns (u := .pointer (some ⟨s1.next, 0, none⟩)) (Turns.ofPut hnx4 hot4) (fun j hj e => ?_)).mono (fun j hj => by omega), (hs2.trans (hst3.weaken hs2.next)).trans ⟨by omega, fun j hj => hot4 j (by omega)⟩⟩
  have e : some s1.next = some j := e
  injection e with e; omega
set_option maxHeartbeats 8000000 in
theorem set_any {lib : Prims} (hl : lib.at 48 = none) (hlp : lib.at 62 = none) (hle : lib.at 43 = none) (hlc : lib.at 42 = none) (hlcl : lib.at 61 = none)
    (hlo : lib.at 64 = none) (hl1 : lib.at 68 = none) (hl2 : lib.at 69 = none) (hld : lib.at 70 = none) (hli : lib.at 67 = none) (hlcE : lib.at 71 = none)
    (hlk : lib.at 65 = none) (hls : lib.at 72 = none) (hlb : lib.at 73 = none) (hp : lib.at 74 = some pCmpStr)
    (F : Nat → Prop) (s : ASt) (cs : List Value) (o : O) (ho : OIs F s cs o) (hsm : Small o) (x : Value) (L : List (List UInt8 × O)) (lx : List Value) (hx : Sees s 6 x L.length lx) (hL : ORows EntIs 6 F s L lx) (hLn : L.length ≤ 100000) (hLs : ∀ e ∈ L, Small e.2) :
    Runs Try.prog lib 48 [.agg cs.toArray, x] s (NewO s (setO o L)) := by
  have hcl := ho.len
  refine Runs.enter 35 Try.func48 rfl hl rfl rfl ?_
  intro f hn hf
  have h0 : f.get 0 = .agg cs.toArray := hf 0
  have h1 : f.get 1 = x := hf 1
  clear hf
  simp (config := { maxSteps := 1000000, implicitDefEqProofs := false }) (disch := omega) only [allW, allR, oneOf, evalAll, partsA, optA, Nat.reduceLT, Nat.reduceLeDiff, Nat.reduceEqDiff, Nat.reduceAdd, ↓reduceIte, hn, h0, h1]
  refine wstep_newPtr ?_
  intro s1 ht1 hst1 hnx1
  simp (config := { maxSteps := 1000000, implicitDefEqProofs := false }) (disch := omega) only [allW, allR, oneOf, evalAll, partsA, optA, Nat.reduceLT, Nat.reduceLeDiff, Nat.reduceEqDiff, Nat.reduceAdd, ↓reduceIte, hn, h0, h1, hcl, zO, plO]
  refine wstep_newPtr ?_
  intro s2 ht2 hst2 hnx2
  have hs2 : Stay s.next s s2 := hst1.trans (hst2.weaken (by omega))
  have ht12 := ht1.keeps hst2
  have hd6 : noneC.length + 1 = 6 := rfl
  have la : ∀ s', Stay s2.next s2 s' → loadA Try.prog s' 31 (.pointer (some ⟨s.next, 0, some 6⟩)) = some (.agg cs.toArray) := fun s' h => Thing.loadAll agO (by rw [hcl]; exact szO) (ht12.keeps h) (by rw [hcl])
  simp (config := { maxSteps := 1000000, implicitDefEqProofs := false }) (disch := omega) only [allW, allR, oneOf, evalAll, partsA, optA, Nat.reduceLT, Nat.reduceLeDiff, Nat.reduceEqDiff, Nat.reduceAdd, ↓reduceIte, hn, h0, h1, la s2 (Stay.refl _ _), hd6]
  refine (copyO hlc hlcl _ o (Nat.le_refl _) F s2 cs (ho.keeps hs2) hsm).mono ?_
  intro v s3 h3
  obtain ⟨cs', rfl, ho3, hst3⟩ := h3.is
  have hcl' := ho3.len
  simp (config := { maxSteps := 1000000, implicitDefEqProofs := false }) (disch := omega) only [allW, allR, oneOf, evalAll, partsA, optA, Nat.reduceLT, Nat.reduceLeDiff, Nat.reduceEqDiff, Nat.reduceAdd, ↓reduceIte, hn, h0, h1, zO, plO]
  refine wstep_newPtr ?_
  intro s4 ht4 hst4 hnx4
  simp (config := { maxSteps := 1000000, implicitDefEqProofs := false }) (disch := omega) only [allW, allR, oneOf, evalAll, partsA, optA, Nat.reduceLT, Nat.reduceLeDiff, Nat.reduceEqDiff, Nat.reduceAdd, ↓reduceIte, hn, h0, h1, hd6]
  refine wstep_storeAll szO (by decide) ht4 rfl rfl hcl' ho3.ok ?_
  intro s5 ht5 hnx5 hot5
  have ht5 : Thing s5 s3.next cs' := ht5
  have hs35 : Stay s3.next s3 s5 := hst4.trans ⟨by omega, fun j hj => hot5 j (by omega)⟩
  have hs25 : Stay s2.next s2 s5 := hst3.trans (hs35.weaken hst3.next)
  have hs05 : Stay s.next s s5 := hs2.trans (hs25.weaken hs2.next)
  simp (config := { maxSteps := 1000000, implicitDefEqProofs := false }) (disch := omega) only [allW, allR, oneOf, evalAll, partsA, optA, Nat.reduceLT, Nat.reduceLeDiff, Nat.reduceEqDiff, Nat.reduceAdd, ↓reduceIte, hn, h0, h1, la s5 hs25]
  refine (entries_any hle F s5 cs o (ho.keeps hs05)).mono ?_
  rintro _ s6 ⟨rfl, hs56⟩
  have hs36 : Stay s3.next s3 s6 := hs35.trans (hs56.weaken hs35.next)
  have hs26 : Stay s2.next s2 s6 := hs25.trans (hs56.weaken hs25.next)
  have hs06 : Stay s.next s s6 := hs05.trans (hs56.weaken hs05.next)
  have ht6 := ht5.keeps hs56
  have ho6 := ho3.keeps hs36
  have hn3 := hst3.next
  have hn2 := hst2.next
  have hn36 := hs36.next
  have l6 : loadA Try.prog s6 31 (.pointer (some ⟨s3.next, 0, some 6⟩)) = some (.agg cs'.toArray) := Thing.loadAll agO (by rw [hcl']; exact szO) ht6 (by rw [hcl'])
  
  have hend : ∀ (t : ASt) (o' : O) (cs'' : List Value) (G : Nat → Prop) (Q : Value → ASt → Prop), (∀ j, G j → s2.next ≤ j) → OIs G t cs'' o' → Stay s2.next s2 t → (∀ v s', NewO s o' v s' → Q v s') → ∀ t', Thing t' s1.next cs'' → t'.next = t.next → (∀ j, j ≠ s1.next → t'.heap.get j = t.heap.get j) → Q (.agg cs''.toArray) t' := by
    intro t o' cs'' G Q hG ho' hst' hQ t' ht' hnx' hot'
    refine hQ _ _ ⟨cs'', rfl, (ho'.turns (u := .pointer (some ⟨s1.next, 0, none⟩)) (Turns.ofPut hnx' hot') (fun j hj e => ?_)).mono (fun j hj => by have := hG j hj; omega), (hs2.trans (hst'.weaken hs2.next)).trans ⟨by omega, fun j hj => hot' j (by omega)⟩⟩
    have e : some s1.next = some j := e
    injection e with e; have := hG j hj; omega
  cases hh : o.has with
  | false =>
    simp (config := { maxSteps := 1000000, implicitDefEqProofs := false }) (disch := omega) only [allW, allR, oneOf, evalAll, partsA, optA, Nat.reduceLT, Nat.reduceLeDiff, Nat.reduceEqDiff, Nat.reduceAdd, ↓reduceIte, hn, h0, h1, l6]
    refine wstep_storeAll szO (by decide) (ht2.keeps hs26) rfl rfl hcl' ho6.ok ?_
    intro s7 ht7 hnx7 hot7
    have ht7 : Thing s7 s1.next cs' := ht7
    have l7 : loadA Try.prog s7 31 (.pointer (some ⟨s1.next, 0, some 6⟩)) = some (.agg cs'.toArray) := Thing.loadAll agO (by rw [hcl']; exact szO) ht7 (by rw [hcl'])
    simp (config := { maxSteps := 1000000, implicitDefEqProofs := false }) (disch := omega) only [allW, allR, wfn_ret, wfn_normal, oneOf, evalAll, partsA, optA, Nat.reduceLT, Nat.reduceLeDiff, Nat.reduceEqDiff, Nat.reduceAdd, ↓reduceIte, hn, l7, resultsA_cell, Try.results48]
    have e : setO o L = o := by unfold setO; rw [hh]; rfl
    rw [e]
    exact hend s6 o cs' _ _ (fun j hj => hj) ho6 hs26 (fun _ _ h => h) s7 ht7 hnx7 hot7
  | true =>
  have hx6 := hx.keeps hs06
  simp (config := { maxSteps := 1000000, implicitDefEqProofs := false }) (disch := omega) only [allW, allR, oneOf, evalAll, partsA, optA, Nat.reduceLT, Nat.reduceLeDiff, Nat.reduceEqDiff, Nat.reduceAdd, ↓reduceIte, hn, h0, h1, hx6.lenA Try.underlying29]
  clear la l6
  have ho3l := ho3.lows
  cases o with
  | mk kind num b l d =>
  obtain ⟨bv, lv, dv, lc, dc, rfl, hb3, hl3, hd3, fb3, fl3, fd3, rl3, rd3⟩ := ho3l.parts
  obtain ⟨G, hG⟩ : ∃ G : Nat → Prop, G = fun j => s2.next ≤ j ∧ j ≠ s3.next := ⟨_, rfl⟩
  have hGl : ∀ j, s2.next ≤ j ∧ j < s3.next → G j := fun j hj => by rw [hG]; exact ⟨hj.1, by omega⟩
  have hkk : setO (.mk kind num b l d) L = .mk kind num b l (putAll d L) := by unfold setO; rw [hh]; rfl
  refine Comes.loopOut (fun z f t => ∃ (i : Nat) (w : Value) (DC : List Value), z = L.length - i ∧ i ≤ L.length ∧ Sees t 6 w (putAll d (L.take i)).length DC ∧ Foot G w ∧ ORows EntIs 6 G t (putAll d (L.take i)) DC ∧ Thing t s3.next [.int .i64 kind, .int .i64 num, bv, lv, w] ∧ Stay s3.next s3 t ∧ f.n = 35 ∧ f.get 4 = .pointer (some ⟨s1.next, 0, some 6⟩) ∧ f.get 5 = .pointer (some ⟨s3.next, 0, some 6⟩) ∧ f.get 14 = x ∧ f.get 15 = .int .i64 (L.length : Nat) ∧ f.get 16 = .int .i64 (i : Nat))
    (fun z f t => z = .exit 0 ∧ ∃ (w : Value) (DC : List Value), Sees t 6 w (putAll d L).length DC ∧ Foot G w ∧ ORows EntIs 6 G t (putAll d L) DC ∧ Thing t s3.next [.int .i64 kind, .int .i64 num, bv, lv, w] ∧ Stay s3.next s3 t ∧ f.n = 35 ∧ f.get 4 = .pointer (some ⟨s1.next, 0, some 6⟩) ∧ f.get 5 = .pointer (some ⟨s3.next, 0, some 6⟩))
    ⟨0, dv, dc, rfl, by omega, by rw [List.take_zero]; exact hd3.keeps hs36, fd3.mono hGl, by rw [List.take_zero]; exact (rd3.mono rowedE hGl).keeps rowedE hs36, ht6, hs36, by simp only [get_put, n_put, ↓reduceIte, Nat.reduceEqDiff, hn], by simp only [get_put, n_put, ↓reduceIte, Nat.reduceEqDiff], by simp only [get_put, n_put, ↓reduceIte, Nat.reduceEqDiff], by simp only [get_put, n_put, ↓reduceIte, Nat.reduceEqDiff], by simp only [get_put, n_put, ↓reduceIte, Nat.reduceEqDiff], by simp only [get_put, n_put, ↓reduceIte, Nat.reduceEqDiff]; rfl⟩ ?_ ?_
  · clear hn h0 h1 f
    rintro Q hQ z f t ⟨i, w, DC, rfl, hi, hw, hwF, hwr, htt, hst, hn, h4, h5, h14, h15, h16⟩
    by_cases hlt : i < L.length
    rotate_left
    · obtain rfl : i = L.length := by omega
      rw [List.take_length] at hw hwr
      have d1 : ¬ ((L.length : Nat) : Int) < ((L.length : Nat) : Int) := by omega
      simp (config := { maxSteps := 1000000, implicitDefEqProofs := false }) (disch := omega) only [allW, allR, oneOf, evalAll, partsA, optA, Nat.reduceLT, Nat.reduceLeDiff, Nat.reduceEqDiff, Nat.reduceAdd, ↓reduceIte, hn, h4, h5, h14, h15, h16, eq_false d1]
      exact hQ _ _ _ ⟨rfl, w, DC, hw, hwF, hwr, htt, hst, by simp only [get_put, n_put, ↓reduceIte, Nat.reduceEqDiff, hn], by simp only [get_put, n_put, ↓reduceIte, Nat.reduceEqDiff, h4], by simp only [get_put, n_put, ↓reduceIte, Nat.reduceEqDiff, h5]⟩
    have d1 : (i : Int) < (L.length : Int) := by omega
    have hs2t : Stay s2.next s2 t := hst3.trans (hst.weaken hn3)
    have hs0t : Stay s.next s t := hs2.trans (hs2t.weaken hs2.next)
    have hxt := hx.keeps hs0t
    have hix := hxt.indexAddr (P := Try.prog) (k := .i64) (x := (i : Int)) Try.underlying29 szE (by omega) (by omega)
    rw [Int.toNat_natCast] at hix
    have hstn := hst.next
    have hll := hxt.loadAgg (P := Try.prog) agE szE hlt
    obtain ⟨r, hr1, hr2, hr3⟩ := hL.row i hlt
    have hrl := hr2.len
    rw [hr1] at hll
    obtain ⟨xs, hxs⟩ : ∃ xs, xs = Value.string ⟨(L[i].1).toArray⟩ :: r := ⟨_, rfl⟩
    rw [← hxs] at hll
    have hxl : xs.length = 6 := by rw [hxs]; simp [hrl]
    have hxok : xs.all okCell = true := by rw [hxs, List.all_cons, hr2.ok]; rfl
    simp (config := { maxSteps := 1000000, implicitDefEqProofs := false }) (disch := omega) only [allW, allR, oneOf, evalAll, partsA, optA, Nat.reduceLT, Nat.reduceLeDiff, Nat.reduceEqDiff, Nat.reduceAdd, ↓reduceIte, hn, h4, h5, h14, h15, h16, eq_true d1, hix, hll, zE, plE]
    refine wstep_newPtr ?_
    intro t1 ht1' hst1' hnx1'
    have hd7 : noneE.length + 1 = 7 := rfl
    simp (config := { maxSteps := 1000000, implicitDefEqProofs := false }) (disch := omega) only [allW, allR, oneOf, evalAll, partsA, optA, Nat.reduceLT, Nat.reduceLeDiff, Nat.reduceEqDiff, Nat.reduceAdd, ↓reduceIte, hn, h4, h5, h14, h15, h16, hd7]
    refine wstep_storeAll szE (by decide) ht1' rfl rfl hxl hxok ?_
    intro t2 ht2' hnx2' hot2'
    have ht2' : Thing t2 t.next xs := ht2'
    have hstt2 : Stay t.next t t2 := hst1'.trans ⟨by omega, fun j hj => hot2' j (by omega)⟩
    simp (config := { maxSteps := 1000000, implicitDefEqProofs := false }) (disch := omega) only [allW, allR, oneOf, evalAll, partsA, optA, Nat.reduceLT, Nat.reduceLeDiff, Nat.reduceEqDiff, Nat.reduceAdd, ↓reduceIte, hn, h4, h5, h14, h15, h16]
    obtain ⟨A, hA⟩ : ∃ A : Nat → Bool, A = fun j => decide (j < t2.next) := ⟨_, rfl⟩
    have hAl : ∀ j, A j = true → j < t2.next := by
      intro j h
      rw [hA] at h
      exact of_decide_eq_true h
    have hAo : ∀ j, j < t2.next → A j = true := fun j h => by rw [hA]; exact decide_eq_true h
    refine LB.Drawn.looseK A hAl 2 0 (by kernel_rfl) (by kernel_rfl) ?_
    have hsp := Stay.spare t2 0
    have hnT : (spare t2 0).next = t2.next + 0 := spare_next _ _
    have hst02 : Stay t.next t (spare t2 0) := hstt2.trans (hsp.weaken hstt2.next)
    have htO := htt.keeps hst02
    have htE := ht2'.keeps hsp
    have hw2 := hw.keeps hst02
    have hwr2 := hwr.keeps rowedE hst02
    have hnt2 := hstt2.next
    have hlow5 : ∀ k, LA.lowV A (some (.pointer (some ⟨s3.next, k, some 6⟩))) = true := fun k => LA.lowV_ptr (A := A) (i := s3.next) (hAo _ (by have := htt.lt; omega))
    have hlow7 : ∀ k, LA.lowV A (some (.pointer (some ⟨t.next, k, some 7⟩))) = true := fun k => LA.lowV_ptr (A := A) (i := t.next) (hAo _ ht2'.lt)
    cases hLi : L[i] with
    | mk ek ev =>
    rw [hLi] at hr2 hr3 hxs
    cases ev with
    | mk ekd en eb el ed =>
    obtain ⟨xb, xl, xd, xlc, xdc, rfl, -⟩ := hr2.parts
    have l20 : loadA Try.prog (spare t2 0) 29 (.pointer (some ⟨s3.next, 4, some 6⟩)) = some w := htO.load agDs (off := 4) (c := 6) rfl (by simp)
    have l22 : loadA Try.prog (spare t2 0) 9 (.pointer (some ⟨t.next, 0, some 7⟩)) = some (.string ⟨ek.toArray⟩) := by
      have := htE.load (P := Try.prog) agStr (off := 0) (c := 7) (by rw [hxl]) (by omega)
      rw [this, hxs]; rfl
    have l24 : loadA Try.prog (spare t2 0) 31 (.pointer (some ⟨t.next, 1, some 7⟩)) = some (.agg #[.int .i64 ekd, .int .i64 en, xb, xl, xd]) := by
      have := Thing.loadMid (P := Try.prog) agO szO htE (off := 1) (c := 7) (by rw [hxl]) (by omega)
      rw [this, hxs, List.drop_succ_cons, List.drop_zero, List.take_of_length_le (by simp)]
    have hoi := hr2.keeps (hs0t.trans (hst02.weaken hs0t.next))
    simp (config := { maxSteps := 1000000, implicitDefEqProofs := false }) (disch := omega) only [allW, allR, allL, allB, Nat.sub_self, Nat.add_one_sub_one, Nat.reduceSub, oneOf, evalAll, partsA, optA, Nat.reduceLT, Nat.reduceLeDiff, Nat.reduceEqDiff, Nat.reduceAdd, ↓reduceIte, hn, h4, h5, h14, h15, h16, of0, of4, ofE0, ofE1, hlow5, hlow7, l20, l22, l24, hw2.self, hoi.self, valEq_string]
    refine (pair_any hlp hlc hlcl F (spare t2 0) ek _ _ hoi (by have := hLs _ (List.getElem_mem hlt); rw [hLi] at this; exact this)).mono ?_
    rintro _ t3 ⟨cp, rfl, hcp, hst3'⟩
    have hcpl := hcp.len
    have htO3 := htO.keeps hst3'
    have htE3 := htE.keeps hst3'
    have hw3 := hw2.keeps hst3'
    have hwr3 := hwr2.keeps rowedE hst3'
    have hn3' := hst3'.next
    refine ⟨fun _ => LA.Stay.toA hAl (hst3'.weaken (by omega)), ?_⟩
    have l29 : loadA Try.prog t3 3 (.pointer (some ⟨t.next, 1, some 7⟩)) = some (.int .i64 ekd) := by
      have := htE3.load (P := Try.prog) agInt (off := 1) (c := 7) (by rw [hxl]) (by omega)
      rw [this, hxs]; rfl
    have hcps : valEq (.agg (.string ⟨ek.toArray⟩ :: cp).toArray) (.agg (.string ⟨ek.toArray⟩ :: cp).toArray) = true := by
      have := hcp.self
      match cp, hcpl, this with
      | [a, b, c, d, e], _, this =>
        simp [valEq, valEqL] at this ⊢
        exact ⟨by simp [valEq1], this⟩
    simp (config := { maxSteps := 1000000, implicitDefEqProofs := false }) (disch := omega) only [allW, allR, allL, allB, Nat.sub_self, Nat.add_one_sub_one, Nat.reduceSub, oneOf, evalAll, partsA, optA, Nat.reduceLT, Nat.reduceLeDiff, Nat.reduceEqDiff, Nat.reduceAdd, ↓reduceIte, hn, h4, h5, h14, h15, h16, of0, of4, hlow5, hlow7, l29, hw3.self, hcps]
    have hG3 : ∀ j, t3.next ≤ j → G j := fun j hj => by rw [hG]; exact ⟨by omega, by have := htO3.lt; omega⟩
    have hlen5 := putAll_len d (L.take i)
    have hdl : d.length ≤ 100000 := by cases hsm; assumption
    rw [List.length_take] at hlen5
    have hcpG : OIs G t3 cp (.mk ekd en eb el ed) := hcp.mono (fun j hj => by rw [hG]; exact ⟨by omega, by have := htO3.lt; omega⟩)
    refine (sorted_any hlo hl1 hl2 hld hli hlcE hlk hls hlb hp G t3 w _ DC hw3 hwr3 (by omega) (ek, .mk ekd en eb el ed) _ ⟨cp, rfl, hcpG, hr3⟩ (decide (ekd ≠ 0))).mono ?_
    rintro w' t4 ⟨LC, hw4, hwF4, hst4', hwr4⟩
    refine ⟨fun _ => LA.Stay.toA hAl (hst4'.weaken (by omega)), ?_⟩
    have hputE : putAll d (L.take (i + 1)) = putK (putAll d (L.take i)) (ek, .mk ekd en eb el ed) (decide (ekd ≠ 0)) := by
      rw [putAll_take hlt, hLi, putE_eq]; rfl
    rw [← hputE] at hw4 hwr4
    have htO4 := htO3.keeps hst4'
    refine LB.sstep_storeN szDs (by decide) htO4 (off := 4) (c := 6) rfl (vs := [w']) hw4.sees.cell1 rfl (by simp) (by simp [hw4.sees.okCell]) (fun h => absurd rfl h) ?_
    intro t5 ht5' hnx5' hot5'
    have ht5' : Thing t5 s3.next [.int .i64 kind, .int .i64 num, bv, lv, w'] := ht5'
    have hne : ∀ j, G j → idOf (.pointer (some ⟨s3.next, 0, none⟩)) ≠ some j := fun j hj e => by
      have e : some s3.next = some j := e
      injection e with e
      rw [hG] at hj; exact hj.2 e.symm
    have hwG : ∀ j, idOf w' = some j → G j := fun j hj => hG3 j (hwF4 j hj)
    have hst45 : Stay s3.next t4 t5 := ⟨by omega, fun j hj => hot5' j (by omega)⟩
    have hw5 : Own t5 6 w' (putAll d (L.take (i + 1))).length LC := hw4.ofPut hnx5' hot5' (fun e => hne _ (hwG _ e) rfl)
    have hwr5 := ((hwr4.mono rowedE (fun j hj => hj.1)).turns rowedE (Turns.ofPut hnx5' hot5') hne)
    simp (config := { maxSteps := 1000000, implicitDefEqProofs := false }) (disch := omega) only [allW, allR, allL, allB, Nat.sub_self, Nat.add_one_sub_one, Nat.reduceSub, oneOf, evalAll, partsA, optA, Nat.reduceLT, Nat.reduceLeDiff, Nat.reduceEqDiff, Nat.reduceAdd, ↓reduceIte, hn, h4, h5, h14, h15, h16, wrapI]
    exact wround_next (L.length - (i + 1)) (by omega) ⟨i + 1, w', LC, rfl, by omega, hw5.sees, Foot.of_id hwG, hwr5, ht5', (((hst.trans (hst02.weaken hstn)).trans (hst3'.weaken (by omega))).trans (hst4'.weaken (by omega))).trans hst45, by simp only [get_put, n_put, ↓reduceIte, Nat.reduceEqDiff, hn], by simp only [get_put, n_put, ↓reduceIte, Nat.reduceEqDiff, h4], by simp only [get_put, n_put, ↓reduceIte, Nat.reduceEqDiff, h5], by simp only [get_put, n_put, ↓reduceIte, Nat.reduceEqDiff, h14], by simp only [get_put, n_put, ↓reduceIte, Nat.reduceEqDiff, h15], by simp only [get_put, n_put, ↓reduceIte, Nat.reduceEqDiff]; rfl⟩
  clear hn h0 h1 f
  rintro z f t ⟨rfl, w, DC, hw, hwF, hwr, htt, hst, hn, h4, h5⟩
  have hfin : OIs G t [.int .i64 kind, .int .i64 num, bv, lv, w] (.mk kind num b l (putAll d L)) := OIs.whole (hb3.keeps hst) (hl3.keeps hst) hw (fb3.mono hGl) (fl3.mono hGl) hwF ((rl3.mono rowedO hGl).keeps rowedO hst) hwr
  have l9 : loadA Try.prog t 31 (.pointer (some ⟨s3.next, 0, some 6⟩)) = some (.agg #[.int .i64 kind, .int .i64 num, bv, lv, w]) := Thing.loadAll agO (cs := [.int .i64 kind, .int .i64 num, bv, lv, w]) szO htt rfl
  have hs2t : Stay s2.next s2 t := hst3.trans (hst.weaken hn3)
  simp (config := { maxSteps := 1000000, implicitDefEqProofs := false }) (disch := omega) only [allW, allR, oneOf, evalAll, partsA, optA, Nat.reduceLT, Nat.reduceLeDiff, Nat.reduceEqDiff, Nat.reduceAdd, ↓reduceIte, hn, h4, h5, l9]
  refine wstep_storeAll szO (by decide) (ht2.keeps hs2t) rfl rfl rfl hfin.ok ?_
  intro s7 ht7 hnx7 hot7
  have ht7 : Thing s7 s1.next [.int .i64 kind, .int .i64 num, bv, lv, w] := ht7
  have l7 : loadA Try.prog s7 31 (.pointer (some ⟨s1.next, 0, some 6⟩)) = some (.agg #[.int .i64 kind, .int .i64 num, bv, lv, w]) := Thing.loadAll agO (cs := [.int .i64 kind, .int .i64 num, bv, lv, w]) szO ht7 rfl
  simp (config := { maxSteps := 1000000, implicitDefEqProofs := false }) (disch := omega) only [allW, allR, wfn_ret, wfn_normal, oneOf, evalAll, partsA, optA, Nat.reduceLT, Nat.reduceLeDiff, Nat.reduceEqDiff, Nat.reduceAdd, ↓reduceIte, hn, h4, l7, resultsA_cell, Try.results48]
  rw [hkk]
  exact hend t _ _ G _ (fun j hj => by rw [hG] at hj; exact hj.1) hfin hs2t (fun _ _ h => h) s7 ht7 hnx7 hot7
end Go.Proofs.Ytokfoagohblkoaa
set_option linter.unusedSimpArgs false
set_option linter.unusedVariables false
set_option maxRecDepth 100000
namespace Go.Cl
theorem OIs.ofPut {F : Nat → Prop} {s s' : ASt} {cs : List Value} {o : O} {i : Nat} (h : OIs F s cs o) (h1 : s'.next = s.next) (h2 : ∀ q, q ≠ i → s'.heap.get q = s.heap.get q) (hF : ¬ F i) : OIs F s' cs o :=
  h.turns (u := .pointer (some ⟨i, 0, Option.none⟩)) (Turns.ofPut h1 h2) (fun j hj e => by
    have e : some i = some j := e
    injection e with e; subst e; exact hF hj)
theorem OIs.bare (F : Nat → Prop) (s : ASt) (k n : Int) : OIs F s [.int .i64 k, .int .i64 n, .slice Option.none 0 0, .slice Option.none 0 0, .slice Option.none 0 0] (.mk k n [] [] []) :=
  OIs.whole .nil .nil .nil trivial trivial trivial ORows.nil ORows.nil
theorem Small.bare (k n : Int) : Small (.mk k n [] [] []) := .mk (by simp) (by simp) (by simp) (fun e h => by cases h) (fun e h => by cases h) (fun e h => by cases h)
theorem Small.none : Small O.none := Small.bare 0 0
def findE (d : List (List UInt8 × O)) (k : List UInt8) : O := match d.find? (fun y => y.1 == k) with
  | some e => e.2
  | Option.none => O.none
def getO (o : O) (k : List UInt8) : O := if o.has then findE o.ents k else O.none
theorem findE_at {d : List (List UInt8 × O)} {k : List UInt8} {i : Nat} (hi : i < d.length) (h1 : d[i].1 = k) (h2 : ∀ j (h : j < i), d[j].1 ≠ k) : findE d k = d[i].2 := by
  unfold findE
  have : d.find? (fun y => y.1 == k) = some d[i] := by
    rw [List.find?_eq_some_iff_getElem]
    refine ⟨by simpa using h1, i, hi, rfl, fun j hj => ?_⟩
    have := h2 j hj
    simpa using this
  rw [this]
theorem findE_none {d : List (List UInt8 × O)} {k : List UInt8} (h2 : ∀ j (h : j < d.length), d[j].1 ≠ k) : findE d k = O.none := by
  unfold findE
  have : d.find? (fun y => y.1 == k) = none := by
    rw [List.find?_eq_none]
    intro y hy
    obtain ⟨j, hj, rfl⟩ := List.mem_iff_getElem.1 hy
    simpa using h2 j hj
  rw [this]
end Go.Cl
namespace Go.Proofs.Ytokfoagohblkoaa
open Go.Cl Go.Lib
structure LibC (lib : Prims) : Prop where
  set : lib.at 48 = none
  pair : lib.at 62 = none
  sorted : lib.at 64 = none
  c1 : lib.at 68 = none
  c2 : lib.at 69 = none
  del : lib.at 70 = none
  idx : lib.at 67 = none
  cloneE : lib.at 71 = none
  byKey : lib.at 65 = none
  cmp : lib.at 72 = none
  cmpB : lib.at 73 = none
  prim : lib.at 74 = some pCmpStr
  entries : lib.at 43 = none
  copy : lib.at 42 = none
  clone : lib.at 61 = none
  dict : lib.at 27 = none
  get : lib.at 25 = none
  nothing : lib.at 41 = none
theorem setC {lib : Prims} (L : LibC lib) (F : Nat → Prop) (s : ASt) (cs : List Value) (o : O) (ho : OIs F s cs o) (hsm : Small o) (x : Value) (l : List (List UInt8 × O)) (lx : List Value) (hx : Sees s 6 x l.length lx) (hL : ORows EntIs 6 F s l lx) (hLn : l.length ≤ 100000) (hLs : ∀ e ∈ l, Small e.2) :
    Runs Try.prog lib 48 [.agg cs.toArray, x] s (NewO s (setO o l)) :=
  set_any L.set L.pair L.entries L.copy L.clone L.sorted L.c1 L.c2 L.del L.idx L.cloneE L.byKey L.cmp L.cmpB L.prim F s cs o ho hsm x l lx hx hL hLn hLs
theorem bO (k n : Int) : buildA Try.prog 31 [(0, .int .i64 k), (1, .int .i64 n)] = some (.agg #[.int .i64 k, .int .i64 n, .slice none 0 0, .slice none 0 0, .slice none 0 0]) := by
  unfold buildA; rw [Try.underlying31]
  have hz : zeroB Try.prog 31 = some (.agg #[.int .i64 0, .int .i64 0, .slice none 0 0, .slice none 0 0, .slice none 0 0]) := by kernel_rfl
  rw [hz]
  have ci : ∀ k n, (Value.int k n).cells = #[.int k n] := fun _ _ => rfl
  simp [szInt, szI64, szSl, szLs, szDs, plainV, plain1, fillA, placeOf, cells_agg, setAt, ci]
theorem bO1 (k : Int) : buildA Try.prog 31 [(0, .int .i64 k)] = some (.agg #[.int .i64 k, .int .i64 0, .slice none 0 0, .slice none 0 0, .slice none 0 0]) := by
  unfold buildA; rw [Try.underlying31]
  have hz : zeroB Try.prog 31 = some (.agg #[.int .i64 0, .int .i64 0, .slice none 0 0, .slice none 0 0, .slice none 0 0]) := by kernel_rfl
  rw [hz]
  have ci : ∀ k n, (Value.int k n).cells = #[.int k n] := fun _ _ => rfl
  simp [szInt, szI64, szSl, szLs, szDs, plainV, plain1, fillA, placeOf, cells_agg, setAt, ci]
theorem bO0 : buildA Try.prog 31 [] = some (.agg #[.int .i64 0, .int .i64 0, .slice none 0 0, .slice none 0 0, .slice none 0 0]) := by kernel_rfl
theorem bO2 (k : Int) {b : Value} (hb : b.cells.toList = [b]) : buildA Try.prog 31 [(0, .int .i64 k), (2, b)] = some (.agg #[.int .i64 k, .int .i64 0, b, .slice none 0 0, .slice none 0 0]) := by
  unfold buildA; rw [Try.underlying31]
  have hz : zeroB Try.prog 31 = some (.agg #[.int .i64 0, .int .i64 0, .slice none 0 0, .slice none 0 0, .slice none 0 0]) := by kernel_rfl
  rw [hz]
  have ci : ∀ k n, (Value.int k n).cells = #[.int k n] := fun _ _ => rfl
  simp [szInt, szI64, szSl, szLs, szDs, plainV, plain1, fillA, placeOf, cells_agg, setAt, ci, hb]
theorem NewO.put {s t t' : ASt} {i : Nat} {F : Nat → Prop} {cs : List Value} {o : O} (h : OIs F t cs o) (hF : ∀ j, F j → s.next ≤ j ∧ j ≠ i) (h1 : t'.next = t.next) (h2 : ∀ q, q ≠ i → t'.heap.get q = t.heap.get q) (hs : Stay s.next s t) (hi : s.next ≤ i) : NewO s o (.agg cs.toArray) t' :=
  ⟨cs, rfl, (h.ofPut h1 h2 (fun q => (hF i q).2 rfl)).mono (fun j hj => (hF j hj).1), hs.trans ⟨by omega, fun j hj => h2 j (by omega)⟩⟩
theorem Thing.loadO {s : ASt} {i : Nat} {cs : List Value} (h : Thing s i cs) (hl : cs.length = 5) : loadA Try.prog s 31 (.pointer (some ⟨i, 0, some 6⟩)) = some (.agg cs.toArray) := Thing.loadAll agO (by rw [hl]; exact szO) h (by rw [hl])
theorem none_any {lib : Prims} (hl : lib.at 41 = none) (s : ASt) : Runs Try.prog lib 41 [] s (NewO s O.none) := by
  refine Runs.enter 2 Try.func41 rfl hl rfl rfl ?_
  intro f hn _
  simp (config := { maxSteps := 1000000, implicitDefEqProofs := false }) (disch := omega) only [allW, allR, oneOf, evalAll, partsA, optA, Nat.reduceLT, Nat.reduceLeDiff, Nat.reduceEqDiff, Nat.reduceAdd, ↓reduceIte, hn, zO, plO]
  refine wstep_newPtr ?_
  intro s1 ht1 hst1 hnx1
  have hd6 : noneC.length + 1 = 6 := rfl
  simp (config := { maxSteps := 1000000, implicitDefEqProofs := false }) (disch := omega) only [allW, allR, oneOf, evalAll, partsA, optA, Nat.reduceLT, Nat.reduceLeDiff, Nat.reduceEqDiff, Nat.reduceAdd, ↓reduceIte, hn, hd6, bO0]
  refine wstep_storeAll szO (by decide) ht1 rfl rfl rfl rfl ?_
  intro s2 ht2 hnx2 hot2
  simp (config := { maxSteps := 1000000, implicitDefEqProofs := false }) (disch := omega) only [allW, allR, wfn_ret, wfn_normal, oneOf, evalAll, partsA, optA, Nat.reduceLT, Nat.reduceLeDiff, Nat.reduceEqDiff, Nat.reduceAdd, ↓reduceIte, hn, Thing.loadO ht2 rfl, resultsA_cell, Try.results41]
  exact NewO.put (F := fun _ => False) (OIs.none _ s1) (fun j hj => hj.elim) hnx2 hot2 hst1 (Nat.le_refl _)
theorem dict_any {lib : Prims} (L : LibC lib) (F : Nat → Prop) (s : ASt) (x : Value) (l : List (List UInt8 × O)) (lx : List Value) (hx : Sees s 6 x l.length lx) (hL : ORows EntIs 6 F s l lx) (hLn : l.length ≤ 100000) (hLs : ∀ e ∈ l, Small e.2) :
    Runs Try.prog lib 27 [x] s (NewO s (.mk 7 0 [] [] (putAll [] l))) := by
  refine Runs.enter 6 Try.func27 rfl L.dict rfl rfl ?_
  intro f hn hf
  have h0 : f.get 0 = x := hf 0
  clear hf
  simp (config := { maxSteps := 1000000, implicitDefEqProofs := false }) (disch := omega) only [allW, allR, oneOf, evalAll, partsA, optA, Nat.reduceLT, Nat.reduceLeDiff, Nat.reduceEqDiff, Nat.reduceAdd, ↓reduceIte, hn, h0, zO, plO]
  refine wstep_newPtr ?_
  intro s1 ht1 hst1 hnx1
  have hd6 : noneC.length + 1 = 6 := rfl
  simp (config := { maxSteps := 1000000, implicitDefEqProofs := false }) (disch := omega) only [allW, allR, oneOf, evalAll, partsA, optA, Nat.reduceLT, Nat.reduceLeDiff, Nat.reduceEqDiff, Nat.reduceAdd, ↓reduceIte, hn, h0, hd6, bO1]
  refine (setC L F s1 _ _ (OIs.bare F s1 7 0) (Small.bare 7 0) x l lx (hx.keeps hst1) (hL.keeps rowedE hst1) hLn hLs).mono ?_
  rintro _ s2 ⟨cs', rfl, ho2, hst2⟩
  have hcl := ho2.len
  simp (config := { maxSteps := 1000000, implicitDefEqProofs := false }) (disch := omega) only [allW, allR, oneOf, evalAll, partsA, optA, Nat.reduceLT, Nat.reduceLeDiff, Nat.reduceEqDiff, Nat.reduceAdd, ↓reduceIte, hn, h0]
  refine wstep_storeAll szO (by decide) (ht1.keeps hst2) rfl rfl hcl ho2.ok ?_
  intro s3 ht3 hnx3 hot3
  simp (config := { maxSteps := 1000000, implicitDefEqProofs := false }) (disch := omega) only [allW, allR, wfn_ret, wfn_normal, oneOf, evalAll, partsA, optA, Nat.reduceLT, Nat.reduceLeDiff, Nat.reduceEqDiff, Nat.reduceAdd, ↓reduceIte, hn, Thing.loadO ht3 hcl, resultsA_cell, Try.results27]
  exact NewO.put ho2 (fun j hj => ⟨by omega, by omega⟩) hnx3 hot3 (hst1.trans (hst2.weaken hst1.next)) (Nat.le_refl _)
end Go.Proofs.Ytokfoagohblkoaa
namespace Go.Cl
def strs (K : List (List UInt8)) : List Value := K.map fun k => .string ⟨k.toArray⟩
theorem strs_get {K : List (List UInt8)} {i : Nat} (h : i < K.length) : (strs K).getD i undef = .string ⟨(K[i]).toArray⟩ := by
  unfold strs; rw [List.getD_eq_getElem?_getD, List.getElem?_map, List.getElem?_eq_getElem h]; rfl
end Go.Cl
namespace Go.Proofs.Ytokfoagohblkoaa
open Go.Cl Go.Lib
set_option maxHeartbeats 4000000 in
theorem get_any {lib : Prims} (hl : lib.at 25 = none) (hle : lib.at 43 = none) (hlc : lib.at 42 = none) (hlcl : lib.at 61 = none) (hln : lib.at 41 = none) (F : Nat → Prop) (s : ASt) (cs : List Value) (o : O) (ho : OIs F s cs o) (hsm : Small o) (k : List UInt8) :
    Runs Try.prog lib 25 [.agg cs.toArray, .string ⟨k.toArray⟩] s (NewO s (getO o k)) := by
  have hcl := ho.len
  refine Runs.enter 25 Try.func25 rfl hl rfl rfl ?_
  intro f hn hf
  have h0 : f.get 0 = .agg cs.toArray := hf 0
  have h1 : f.get 1 = .string ⟨k.toArray⟩ := hf 1
  clear hf
  simp (config := { maxSteps := 1000000, implicitDefEqProofs := false }) (disch := omega) only [allW, allR, oneOf, evalAll, partsA, optA, Nat.reduceLT, Nat.reduceLeDiff, Nat.reduceEqDiff, Nat.reduceAdd, ↓reduceIte, hn, h0, h1]
  refine wstep_newPtr ?_
  intro s1 ht1 hst1 hnx1
  have hd6 : noneC.length + 1 = 6 := rfl
  simp (config := { maxSteps := 1000000, implicitDefEqProofs := false }) (disch := omega) only [allW, allR, oneOf, evalAll, partsA, optA, Nat.reduceLT, Nat.reduceLeDiff, Nat.reduceEqDiff, Nat.reduceAdd, ↓reduceIte, hn, h0, h1, hcl, zO, plO]
  refine wstep_newPtr ?_
  intro s2 ht2 hst2 hnx2
  have hs2 : Stay s.next s s2 := hst1.trans (hst2.weaken (by omega))
  have ht12 := ht1.keeps hst2
  simp (config := { maxSteps := 1000000, implicitDefEqProofs := false }) (disch := omega) only [allW, allR, oneOf, evalAll, partsA, optA, Nat.reduceLT, Nat.reduceLeDiff, Nat.reduceEqDiff, Nat.reduceAdd, ↓reduceIte, hn, h0, h1, Thing.loadO ht12 hcl, hd6]
  refine (entries_any hle F s2 cs o (ho.keeps hs2)).mono ?_
  rintro _ s3 ⟨rfl, hst3⟩
  have ht13 := ht12.keeps hst3
  have ht23 := ht2.keeps hst3
  have hs3 := hs2.trans (hst3.weaken hs2.next)
  cases hh : o.has with
  | false =>
    have e : getO o k = O.none := by unfold getO; rw [hh]; rfl
    rw [e]
    simp (config := { maxSteps := 1000000, implicitDefEqProofs := false }) (disch := omega) only [allW, allR, oneOf, evalAll, partsA, optA, Nat.reduceLT, Nat.reduceLeDiff, Nat.reduceEqDiff, Nat.reduceAdd, ↓reduceIte, hn, h0, h1]
    refine (none_any hln s3).mono ?_
    rintro _ q4 ⟨cs', rfl, ho4, hq4⟩
    have hcl4 := ho4.len
    have q24 := (hst3).trans (hq4.weaken (hst3).next)
    have hn1 := hst1.next
    have hn2 := hs2.next
    have hn3 := (hst3).next
    simp (config := { maxSteps := 1000000, implicitDefEqProofs := false }) (disch := omega) only [allW, allR, oneOf, evalAll, partsA, optA, Nat.reduceLT, Nat.reduceLeDiff, Nat.reduceEqDiff, Nat.reduceAdd, ↓reduceIte, hn, h0, h1]
    refine wstep_storeAll szO (by decide) (ht2.keeps q24) rfl rfl hcl4 ho4.ok ?_
    intro q5 ht5 hnx5 hot5
    simp (config := { maxSteps := 1000000, implicitDefEqProofs := false }) (disch := omega) only [allW, allR, wfn_ret, wfn_normal, oneOf, evalAll, partsA, optA, Nat.reduceLT, Nat.reduceLeDiff, Nat.reduceEqDiff, Nat.reduceAdd, ↓reduceIte, hn, h0, h1, Thing.loadO ht5 hcl4, resultsA_cell, Try.results25]
    exact NewO.put ho4 (fun j hj => ⟨by omega, by omega⟩) hnx5 hot5 (hs2.trans (q24.weaken hs2.next)) hn1
  | true =>
  cases o with
  | mk kind num b l d =>
  obtain ⟨bv, lv, dv, lc, dc, rfl, hb, hL, hD, fb, fl, fd, rl, rd⟩ := ho.parts
  cases hsm with
  | mk hb1 hl2 hd1 hK1 hL1 hD1 =>
  have hg : getO (.mk kind num b l d) k = findE d k := by unfold getO; rw [hh]; rfl
  have hD3 := hD.keeps hs3
  have l9 : loadA Try.prog s3 29 (.pointer (some ⟨s.next, 4, some 6⟩)) = some dv := ht13.load agDs (off := 4) (c := 6) rfl (by simp)
  simp (config := { maxSteps := 1000000, implicitDefEqProofs := false }) (disch := omega) only [allW, allR, oneOf, evalAll, partsA, optA, Nat.reduceLT, Nat.reduceLeDiff, Nat.reduceEqDiff, Nat.reduceAdd, ↓reduceIte, hn, h0, h1, of4, l9, hD3.lenA Try.underlying29]
  refine Comes.loopOut (fun z f t => ∃ i : Nat, z = d.length - i ∧ i ≤ d.length ∧ (∀ j (h : j < d.length), j < i → d[j].1 ≠ k) ∧ Stay s2.next s2 t ∧ f.n = 25 ∧ f.get 1 = .string ⟨k.toArray⟩ ∧ f.get 4 = .pointer (some ⟨s1.next, 0, some 6⟩) ∧ f.get 10 = dv ∧ f.get 11 = .int .i64 (d.length : Nat) ∧ f.get 12 = .int .i64 (i : Nat))
    (fun z f t => (z = .ret ∧ f.n = 25 ∧ f.get 4 = .pointer (some ⟨s1.next, 0, some 6⟩) ∧ ∃ cs', Thing t s1.next cs' ∧ OIs (fun j => s2.next ≤ j) t cs' (getO (.mk kind num b l d) k) ∧ Stay s.next s t) ∨ (z = .exit 0 ∧ f.n = 25 ∧ f.get 4 = .pointer (some ⟨s1.next, 0, some 6⟩) ∧ getO (.mk kind num b l d) k = O.none ∧ Stay s2.next s2 t))
    ⟨0, rfl, by omega, fun j h h' => by omega, hst3, by simp only [get_put, n_put, ↓reduceIte, Nat.reduceEqDiff, hn], by simp only [get_put, n_put, ↓reduceIte, Nat.reduceEqDiff, h1], by simp only [get_put, n_put, ↓reduceIte, Nat.reduceEqDiff], by simp only [get_put, n_put, ↓reduceIte, Nat.reduceEqDiff], by simp only [get_put, n_put, ↓reduceIte, Nat.reduceEqDiff], by simp only [get_put, n_put, ↓reduceIte, Nat.reduceEqDiff]; rfl⟩ ?_ ?_
  · clear hn h0 h1 f
    rintro Q hQ z f t ⟨i, rfl, hi, hP, hst, hn, h1, h4, h10, h11, h12⟩
    by_cases hlt : i < d.length
    rotate_left
    · obtain rfl : i = d.length := by omega
      have d1 : ¬ ((d.length : Nat) : Int) < ((d.length : Nat) : Int) := by omega
      simp (config := { maxSteps := 1000000, implicitDefEqProofs := false }) (disch := omega) only [allW, allR, oneOf, evalAll, partsA, optA, Nat.reduceLT, Nat.reduceLeDiff, Nat.reduceEqDiff, Nat.reduceAdd, ↓reduceIte, hn, h1, h4, h10, h11, h12, eq_false d1]
      exact hQ _ _ _ (.inr ⟨rfl, by simp only [get_put, n_put, ↓reduceIte, Nat.reduceEqDiff, hn], by simp only [get_put, n_put, ↓reduceIte, Nat.reduceEqDiff, h4], by rw [hg]; exact findE_none (fun j h => hP j h h), hst⟩)
    have d1 : (i : Int) < (d.length : Int) := by omega
    have hst0 : Stay s.next s t := hs2.trans (hst.weaken hs2.next)
    have hDt := hD.keeps hst0
    have hix := hDt.indexAddr (P := Try.prog) (k := .i64) (x := (i : Int)) Try.underlying29 szE (by omega) (by omega)
    rw [Int.toNat_natCast] at hix
    have hll := hDt.loadAgg (P := Try.prog) agE szE hlt
    obtain ⟨r, hr1, hr2, hr3⟩ := rd.row i hlt
    have hrl := hr2.len
    rw [hr1] at hll
    obtain ⟨xs, hxs⟩ : ∃ xs, xs = Value.string ⟨(d[i].1).toArray⟩ :: r := ⟨_, rfl⟩
    rw [← hxs] at hll
    have hxl : xs.length = 6 := by rw [hxs]; simp [hrl]
    have hxok : xs.all okCell = true := by rw [hxs, List.all_cons, hr2.ok]; rfl
    have hd7 : noneE.length + 1 = 7 := rfl
    simp (config := { maxSteps := 1000000, implicitDefEqProofs := false }) (disch := omega) only [allW, allR, oneOf, evalAll, partsA, optA, Nat.reduceLT, Nat.reduceLeDiff, Nat.reduceEqDiff, Nat.reduceAdd, ↓reduceIte, hn, h1, h4, h10, h11, h12, eq_true d1, hix, hll, zE, plE]
    refine wstep_newPtr ?_
    intro t1 ht1' hst1' hnx1'
    simp (config := { maxSteps := 1000000, implicitDefEqProofs := false }) (disch := omega) only [allW, allR, oneOf, evalAll, partsA, optA, Nat.reduceLT, Nat.reduceLeDiff, Nat.reduceEqDiff, Nat.reduceAdd, ↓reduceIte, hn, h1, h4, h10, h11, h12, hd7]
    refine wstep_storeAll szE (by decide) ht1' rfl rfl hxl hxok ?_
    intro t2 ht2' hnx2' hot2'
    have ht2' : Thing t2 t.next xs := ht2'
    have hstt2 : Stay t.next t t2 := hst1'.trans ⟨by omega, fun j hj => hot2' j (by omega)⟩
    have l17 : loadA Try.prog t2 9 (.pointer (some ⟨t.next, 0, some 7⟩)) = some (.string ⟨(d[i].1).toArray⟩) := by
      have := ht2'.load (P := Try.prog) agStr (off := 0) (c := 7) (by rw [hxl]) (by omega)
      rw [this, hxs]; rfl
    have l21 : loadA Try.prog t2 31 (.pointer (some ⟨t.next, 1, some 7⟩)) = some (.agg r.toArray) := by
      have := Thing.loadMid (P := Try.prog) agO szO ht2' (off := 1) (c := 7) (by rw [hxl]) (by omega)
      rw [this, hxs, List.drop_succ_cons, List.drop_zero, List.take_of_length_le (by omega)]
    have hs2t : Stay s2.next s2 t2 := hst.trans (hstt2.weaken hst.next)
    have hs0t : Stay s.next s t2 := hs2.trans (hs2t.weaken hs2.next)
    by_cases hke : d[i].1 = k
    · have hsmi : Small d[i].2 := hD1 _ (List.getElem_mem hlt)
      simp (config := { maxSteps := 1000000, implicitDefEqProofs := false }) (disch := omega) only [allW, allR, oneOf, evalAll, partsA, optA, Nat.reduceLT, Nat.reduceLeDiff, Nat.reduceEqDiff, Nat.reduceAdd, ↓reduceIte, hn, h1, h4, h10, h11, h12, ofE0, ofE1, l17, str_eql, l21, decide_eq_true hke]
      refine (copyO hlc hlcl _ d[i].2 (Nat.le_refl _) F t2 _ (hr2.keeps hs0t) hsmi).mono ?_
      intro v t3 h3
      obtain ⟨cs', rfl, ho3, hst3'⟩ := h3.is
      have hcl' := ho3.len
      have hs23 : Stay s2.next s2 t3 := hs2t.trans (hst3'.weaken hs2t.next)
      have hn2t := hs2t.next
      simp (config := { maxSteps := 1000000, implicitDefEqProofs := false }) (disch := omega) only [allW, allR, oneOf, evalAll, partsA, optA, Nat.reduceLT, Nat.reduceLeDiff, Nat.reduceEqDiff, Nat.reduceAdd, ↓reduceIte, hn, h1, h4, h10, h11, h12]
      refine wstep_storeAll szO (by decide) (ht2.keeps hs23) rfl rfl hcl' ho3.ok ?_
      intro t4 ht4 hnx4 hot4
      simp (config := { maxSteps := 1000000, implicitDefEqProofs := false }) (disch := omega) only [allW, allR, oneOf, evalAll, partsA, optA, Nat.reduceLT, Nat.reduceLeDiff, Nat.reduceEqDiff, Nat.reduceAdd, ↓reduceIte, hn, h1, h4, h10, h11, h12]
      have hn1 := hst1.next
      refine hQ _ _ _ (.inl ⟨rfl, by simp only [get_put, n_put, ↓reduceIte, Nat.reduceEqDiff, hn], by simp only [get_put, n_put, ↓reduceIte, Nat.reduceEqDiff, h4], cs', ht4, ?_, (hs2.trans (hs23.weaken hs2.next)).trans ⟨by omega, fun j hj => hot4 j (by omega)⟩⟩)
      rw [hg, findE_at hlt hke (fun j hj => hP j (by omega) hj)]
      exact (ho3.ofPut hnx4 hot4 (by omega)).mono (fun j hj => by omega)
    · simp (config := { maxSteps := 1000000, implicitDefEqProofs := false }) (disch := omega) only [allW, allR, oneOf, evalAll, partsA, optA, Nat.reduceLT, Nat.reduceLeDiff, Nat.reduceEqDiff, Nat.reduceAdd, ↓reduceIte, hn, h1, h4, h10, h11, h12, ofE0, ofE1, l17, str_eql, decide_eq_false hke, wrapI]
      refine wround_next (d.length - (i + 1)) (by omega) ⟨i + 1, rfl, by omega, fun j h hj => ?_, hs2t, by simp only [get_put, n_put, ↓reduceIte, Nat.reduceEqDiff, hn], by simp only [get_put, n_put, ↓reduceIte, Nat.reduceEqDiff, h1], by simp only [get_put, n_put, ↓reduceIte, Nat.reduceEqDiff, h4], by simp only [get_put, n_put, ↓reduceIte, Nat.reduceEqDiff, h10], by simp only [get_put, n_put, ↓reduceIte, Nat.reduceEqDiff, h11], by simp only [get_put, n_put, ↓reduceIte, Nat.reduceEqDiff]; rfl⟩
      by_cases hji : j = i
      · subst hji; exact hke
      · exact hP j h (by omega)
  clear hn h0 h1 f
  rintro z f t (⟨rfl, hn, h4, cs', ht4, ho4, hst4⟩ | ⟨rfl, hn, h4, hnone, hst⟩)
  · simp (config := { maxSteps := 1000000, implicitDefEqProofs := false }) (disch := omega) only [allW, allR, wfn_ret, wfn_normal, oneOf, evalAll, partsA, optA, Nat.reduceLT, Nat.reduceLeDiff, Nat.reduceEqDiff, Nat.reduceAdd, ↓reduceIte, hn, h4, Thing.loadO ht4 ho4.len, resultsA_cell, Try.results25]
    have := hs2.next
    exact ⟨cs', rfl, ho4.mono (fun j hj => by omega), hst4⟩
  · rw [hnone]
    have hst0 : Stay s.next s t := hs2.trans (hst.weaken hs2.next)
    simp (config := { maxSteps := 1000000, implicitDefEqProofs := false }) (disch := omega) only [allW, allR, oneOf, evalAll, partsA, optA, Nat.reduceLT, Nat.reduceLeDiff, Nat.reduceEqDiff, Nat.reduceAdd, ↓reduceIte, hn, h4]
    refine (none_any hln t).mono ?_
    rintro _ q4 ⟨cs', rfl, ho4, hq4⟩
    have hcl4 := ho4.len
    have q24 := (hst).trans (hq4.weaken (hst).next)
    have hn1 := hst1.next
    have hn2 := hs2.next
    have hn3 := (hst).next
    simp (config := { maxSteps := 1000000, implicitDefEqProofs := false }) (disch := omega) only [allW, allR, oneOf, evalAll, partsA, optA, Nat.reduceLT, Nat.reduceLeDiff, Nat.reduceEqDiff, Nat.reduceAdd, ↓reduceIte, hn, h4]
    refine wstep_storeAll szO (by decide) (ht2.keeps q24) rfl rfl hcl4 ho4.ok ?_
    intro q5 ht5 hnx5 hot5
    simp (config := { maxSteps := 1000000, implicitDefEqProofs := false }) (disch := omega) only [allW, allR, wfn_ret, wfn_normal, oneOf, evalAll, partsA, optA, Nat.reduceLT, Nat.reduceLeDiff, Nat.reduceEqDiff, Nat.reduceAdd, ↓reduceIte, hn, h4, Thing.loadO ht5 hcl4, resultsA_cell, Try.results25]
    exact NewO.put ho4 (fun j hj => ⟨by omega, by omega⟩) hnx5 hot5 (hs2.trans (q24.weaken hs2.next)) hn1
end Go.Proofs.Ytokfoagohblkoaa
namespace Go.Cl
end Go.Cl
namespace Go.Proofs.Ytokfoagohblkoaa
open Go.Cl Go.Lib
end Go.Proofs.Ytokfoagohblkoaa
