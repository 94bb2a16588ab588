/-
  Objects: sorted.
-/
import Derived.Test.YtdhdhbkikhedlaaCosF
import Derived.Test.YtdhdhbkikhedlaaObjT
set_option linter.unusedSimpArgs false
set_option linter.unusedVariables false
set_option maxRecDepth 100000
namespace Go.Cl
theorem wif_cutJ {P : Program} {lib : Prims} {cA cB : Code} {f : AFr} {s : ASt} {Q : AX → AFr → ASt → Prop} {b : Bool} (J : AFr → ASt → Prop) (h1 : ∀ Q' : AX → AFr → ASt → Prop, (∀ f' s', J f' s' → Q' .normal f' s') → wif P lib cA cB f s Q' b) (h2 : ∀ f' s', J f' s' → Q .normal f' s') : wif P lib cA cB f s Q b := h1 Q h2
end Go.Cl
namespace Go.Proofs.Ytdhdhbkikhedlaa
open Go.Cl Go.Lib
def SortedR (s : ASt) (F : Nat → Prop) (D : List (List UInt8 × O)) (e : List UInt8 × O) (keep : Bool) (v : Value) (s' : ASt) : Prop := ∃ LC, Own s' 6 v (putK D e keep).length LC ∧ Fresh s.next v ∧ Stay s.next s s' ∧ ORows EntIs 6 (fun j => F j ∧ j < s.next) s' (putK D e keep) LC
set_option maxHeartbeats 8000000 in
theorem sorted_any {lib : Prims} (hl : lib.at 47 = none) (hl1 : lib.at 63 = none) (hl2 : lib.at 64 = none) (hld : lib.at 65 = none) (hli : lib.at 62 = none) (hlc : lib.at 66 = none)
    (hlk : lib.at 48 = none) (hls : lib.at 67 = none) (hlb : lib.at 78 = none) (hp : lib.at 83 = some pCmpStr)
    (F : Nat → Prop) (s : ASt) (x : Value) (D : List (List UInt8 × O)) (lx : List Value) (hx : Sees s 6 x D.length lx) (hD : ORows EntIs 6 F s D lx) (hn4 : D.length ≤ 500000) (e : List UInt8 × O) (ce : List Value) (he : EntIs F s ce e) (keep : Bool) :
    Runs Try.prog lib 47 [x, .agg ce.toArray, .func (.func 48) #[] #[], .bool keep] s (SortedR s F D e keep) := by
  obtain ⟨re, rfl, hre, hrk⟩ := he
  have qe := hre.len
  refine Runs.enter 39 Try.func47 rfl hl rfl rfl ?_
  intro f hn hf
  have h0 : f.get 0 = x := hf 0
  have h1 : f.get 1 = .agg (.string ⟨e.1.toArray⟩ :: re).toArray := hf 1
  have h2 : f.get 2 = .func (.func 48) #[] #[] := hf 2
  have h3 : f.get 3 = .bool keep := hf 3
  clear hf
  simp (config := { maxSteps := 1000000, implicitDefEqProofs := false }) (disch := omega) only [allW, allR, oneOf, evalAll, partsA, optA, Nat.reduceLT, Nat.reduceLeDiff, Nat.reduceEqDiff, Nat.reduceAdd, ↓reduceIte, hn, h0, h1, h2, h3]
  refine wstep_newPtr ?_
  intro s1 ht1 hst1 hnx1
  simp (config := { maxSteps := 1000000, implicitDefEqProofs := false }) (disch := omega) only [allW, allR, oneOf, evalAll, partsA, optA, Nat.reduceLT, Nat.reduceLeDiff, Nat.reduceEqDiff, Nat.reduceAdd, ↓reduceIte, hn, h0, h1, h2, h3, List.length_cons, qe]
  refine wstep_newPtr ?_
  intro s2 ht2 hst2 hnx2
  have ht12 := ht1.keeps hst2
  have hs2 : Stay s.next s s2 := hst1.trans (hst2.weaken (by omega))
  have hx2 := hx.keeps hs2
  have hd2 : (Value.func (Fn.func 48) #[] #[]).cells.toList.length + 1 = 2 := rfl
  have ht2 : Thing s2 s1.next [.func (.func 48) #[] #[]] := ht2
  simp (config := { maxSteps := 1000000, implicitDefEqProofs := false }) (disch := omega) only [allW, allR, oneOf, evalAll, partsA, optA, Nat.reduceLT, Nat.reduceLeDiff, Nat.reduceEqDiff, Nat.reduceAdd, ↓reduceIte, hn, h0, h1, h2, h3, List.length_cons, List.length_nil, hd2, aop_makeFunc, hx2.self]
  obtain ⟨p1, hp1⟩ : ∃ p1, p1 = onE D (fun y => !(lessB y.1 e.1)) := ⟨_, rfl⟩
  obtain ⟨q1, hq1⟩ : ∃ q1 : List UInt8 × O → Bool, q1 = fun y => y.1 == e.1 := ⟨_, rfl⟩
  refine (indexE hli 63 [.pointer (some ⟨s1.next, 0, some 2⟩), .pointer (some ⟨s.next, 0, some 7⟩)] s2 x D.length lx hx2 (by omega) p1 (fun i hi s' hs' => ?_)).mono ?_
  · obtain ⟨r, hr1, hr2, -⟩ := hD.row i hi
    rw [hr1]
    refine (clo1 hl1 hlk hls hlb hp s' D[i].1 e.1 r re hr2.len qe s1.next s.next (ht2.keeps hs') (ht12.keeps hs')).mono ?_
    rintro _ s'' ⟨rfl, h⟩
    refine ⟨?_, h⟩
    rw [hp1, onE_at hi]
    congr 1
    cases hlb : lessB D[i].1 e.1 with
    | false => exact decide_eq_true ((compareBytes_ge _ _).2 hlb)
    | true => exact decide_eq_false (fun h => by rw [(compareBytes_ge _ _).1 h] at hlb; cases hlb)
  rintro _ s3 ⟨⟨r, rfl, hr⟩, hs3⟩
  have hat : (r < 0 ∧ atE D e.1 = D.length) ∨ (r = (atE D e.1 : Nat) ∧ ¬ r < 0) := by
    rcases hr with ⟨rfl, hall⟩ | ⟨k, hk, rfl, k1, k2⟩
    · exact .inl ⟨by omega, atE_none (fun i hi => by have := hall i hi; rwa [hp1] at this)⟩
    · rw [hp1] at k1
      have := atE_some hk k1 (fun i hi => by have := k2 i hi; rwa [hp1] at this)
      exact .inr ⟨by rw [this], by omega⟩
  have hle := atE_le D e.1
  have hs03 := hs2.trans (hs3.weaken hs2.next)
  simp (config := { maxSteps := 1000000, implicitDefEqProofs := false }) (disch := omega) only [allW, allR, oneOf, evalAll, partsA, optA, Nat.reduceLT, Nat.reduceLeDiff, Nat.reduceEqDiff, Nat.reduceAdd, ↓reduceIte, hn, h0, h1, h2, h3]
  refine wif_cutJ (fun f' s' => s' = s3 ∧ f'.n = 39 ∧ f'.get 0 = x ∧ f'.get 3 = .bool keep ∧ f'.get 5 = .pointer (some ⟨s.next, 0, some 7⟩) ∧ f'.get 6 = .pointer (some ⟨s1.next, 0, some 2⟩) ∧ f'.get 9 = .int .i64 (atE D e.1 : Nat)) ?_ ?_
  · intro Q' hQ
    rcases hat with ⟨a1, a2⟩ | ⟨a1, a2⟩
    · simp (config := { maxSteps := 1000000, implicitDefEqProofs := false }) (disch := omega) only [allW, allR, oneOf, evalAll, partsA, optA, Nat.reduceLT, Nat.reduceLeDiff, Nat.reduceEqDiff, Nat.reduceAdd, ↓reduceIte, hn, h0, h1, h2, h3, eq_true a1, (hx2.keeps hs3).lenA Try.underlying24]
      exact hQ _ _ ⟨rfl, by simp only [get_put, n_put, ↓reduceIte, Nat.reduceEqDiff, hn], by simp only [get_put, n_put, ↓reduceIte, Nat.reduceEqDiff, h0], by simp only [get_put, n_put, ↓reduceIte, Nat.reduceEqDiff, h3], by simp only [get_put, n_put, ↓reduceIte, Nat.reduceEqDiff], by simp only [get_put, n_put, ↓reduceIte, Nat.reduceEqDiff], by simp only [get_put, n_put, ↓reduceIte, Nat.reduceEqDiff, a2]⟩
    · simp (config := { maxSteps := 1000000, implicitDefEqProofs := false }) (disch := omega) only [allW, allR, oneOf, evalAll, partsA, optA, Nat.reduceLT, Nat.reduceLeDiff, Nat.reduceEqDiff, Nat.reduceAdd, ↓reduceIte, hn, h0, h1, h2, h3, eq_false a2]
      exact hQ _ _ ⟨rfl, by simp only [get_put, n_put, ↓reduceIte, Nat.reduceEqDiff, hn], by simp only [get_put, n_put, ↓reduceIte, Nat.reduceEqDiff, h0], by simp only [get_put, n_put, ↓reduceIte, Nat.reduceEqDiff, h3], by simp only [get_put, n_put, ↓reduceIte, Nat.reduceEqDiff], by simp only [get_put, n_put, ↓reduceIte, Nat.reduceEqDiff], by simp only [get_put, n_put, ↓reduceIte, Nat.reduceEqDiff, a1]⟩
  clear hn h0 h1 h2 h3 f hat hr
  rintro f s4 ⟨rfl, hn, h0, h3, h5, h6, h9⟩
  obtain ⟨k, hk⟩ : ∃ k, k = atE D e.1 := ⟨_, rfl⟩
  rw [← hk] at h9 hle
  have hx4 := hx.keeps hs03
  have hsh := hx4.sliceHigh (P := Try.prog) Try.underlying24 szE (k := .i64) (y := (k : Int)) (by omega) (by omega)
  rw [Int.toNat_natCast] at hsh
  have hcut := hx4.cut (lo := 0) (hi := k) (by omega) hle
  rw [Nat.zero_mul, List.drop_zero, Nat.sub_zero] at hcut
  have hD1 := hD.take k hle
  have hD2 := hD.drop k hle
  simp (config := { maxSteps := 1000000, implicitDefEqProofs := false }) (disch := omega) only [allW, allR, oneOf, evalAll, partsA, optA, Nat.reduceLT, Nat.reduceLeDiff, Nat.reduceEqDiff, Nat.reduceAdd, ↓reduceIte, hn, h0, h3, h5, h6, h9, aop_makeFunc, hx4.self, hsh]
  have hlx := hD.len
  have hkz : k * 6 ≤ D.length * 6 := Nat.mul_le_mul_right 6 hle
  have htl : (D.take k).length = k := by rw [List.length_take]; omega
  have hdl : (D.drop k).length = D.length - k := List.length_drop ..
  refine (cloneE hlc s4 (cutS 6 x 0 k) k (lx.take (k * 6)) hcut (by omega) (rows_ok (by decide) k _ (by rw [List.length_take]; omega) (fun i hi => entOk (hD1.row i (by omega))))).mono ?_
  rintro y s5 ⟨hy, hyF, hs5⟩
  have hs05 := hs03.trans (hs5.weaken hs03.next)
  have hs25 : Stay s2.next s2 s5 := hs3.trans (hs5.weaken hs3.next)
  simp (config := { maxSteps := 1000000, implicitDefEqProofs := false }) (disch := omega) only [allW, allR, oneOf, evalAll, partsA, optA, Nat.reduceLT, Nat.reduceLeDiff, Nat.reduceEqDiff, Nat.reduceAdd, ↓reduceIte, hn, h0, h3, h5, h6, h9]
  refine (delNoneE hld hli 64 [.pointer (some ⟨s1.next, 0, some 2⟩), .pointer (some ⟨s.next, 0, some 7⟩)] s5 y k (lx.take (k * 6)) hy.sees (by omega) (fun _ => false) (fun i hi s' hs' => ?_) (fun _ _ => rfl)).mono ?_
  · obtain ⟨r, hr1, hr2, -⟩ := hD1.row i (by omega)
    rw [hr1]
    have hg : (D.take k)[i]'(by omega) = D[i]'(by omega) := List.getElem_take ..
    have hs2' := hs25.trans (hs'.weaken hs25.next)
    refine (clo2 hl2 hlk hls hlb hp s' _ e.1 r re hr2.len qe s1.next s.next (ht2.keeps hs2') (ht12.keeps hs2')).mono ?_
    rintro _ s'' ⟨rfl, h⟩
    refine ⟨?_, h⟩
    congr 1
    refine decide_eq_false (fun hc => ?_)
    have h1 := atE_less (D := D) (k := e.1) (i := i) (by omega) (by omega)
    have h2 := (compareBytes_eq _ _).1 hc
    rw [hg] at h2
    rw [h2, lessB_irrefl] at h1; cases h1
  rintro v s6 ⟨rfl, hs6⟩
  have hs06 := hs05.trans (hs6.weaken hs05.next)
  have hs26 := hs25.trans (hs6.weaken hs25.next)
  have hy6 := hy.keeps hs6
  have hyF : Fresh s2.next v := fun j hj => by have := hyF j hj; have := hs3.next; omega
  have hn2 := hs2.next
  obtain ⟨FB, hFB⟩ : ∃ FB : Nat → Prop, FB = fun j => F j ∧ j < s.next := ⟨_, rfl⟩
  have hDb : ORows EntIs 6 FB s D lx := by rw [hFB]; exact hD.below rowedE
  have hb1 := (hDb.take k hle).keeps rowedE hs06
  have heb : EntIs FB s (.string ⟨e.1.toArray⟩ :: re) e := by rw [hFB]; exact rowedE.below ⟨re, rfl, hre, hrk⟩
  have hnb : ∀ w : Value, Fresh s.next w → ∀ j, FB j → idOf w ≠ some j := fun w hw j hj e => by rw [hFB] at hj; have := hw _ e; omega
  simp (config := { maxSteps := 1000000, implicitDefEqProofs := false }) (disch := omega) only [allW, allR, oneOf, evalAll, partsA, optA, Nat.reduceLT, Nat.reduceLeDiff, Nat.reduceEqDiff, Nat.reduceAdd, ↓reduceIte, hn, h0, h3, h5, h6, h9]
  obtain ⟨D1, hD1e⟩ : ∃ D1, D1 = D.take k ++ (if keep then [e] else []) := ⟨_, rfl⟩
  have hD1n : D1.length ≤ D.length + 1 := by
    rw [hD1e, List.length_append, List.length_take]
    cases keep <;> simp <;> omega
  refine wif_cutJ (fun f' s' => ∃ (y : Value) (LY : List Value), Own s' 6 y D1.length LY ∧ ORows EntIs 6 FB s' D1 LY ∧ Fresh s2.next y ∧ Stay s2.next s2 s' ∧ f'.n = 39 ∧ f'.get 0 = x ∧ f'.get 9 = .int .i64 (k : Nat) ∧ f'.get 10 = .func (.func 64) #[] #[.pointer (some ⟨s1.next, 0, some 2⟩), .pointer (some ⟨s.next, 0, some 7⟩)] ∧ f'.get 11 = y) ?_ ?_
  · intro Q' hQ
    cases keep with
    | false =>
      rw [if_neg (by decide), List.append_nil] at hD1e
      simp (config := { maxSteps := 1000000, implicitDefEqProofs := false }) (disch := omega) only [allW, allR, oneOf, evalAll, partsA, optA, Nat.reduceLT, Nat.reduceLeDiff, Nat.reduceEqDiff, Nat.reduceAdd, ↓reduceIte, hn, h0, h3, h5, h6, h9]
      exact hQ _ _ ⟨v, _, by rw [hD1e, htl]; exact hy6, by rw [hD1e]; exact hb1, hyF, hs26, by simp only [get_put, n_put, ↓reduceIte, Nat.reduceEqDiff, hn], by simp only [get_put, n_put, ↓reduceIte, Nat.reduceEqDiff, h0], by simp only [get_put, n_put, ↓reduceIte, Nat.reduceEqDiff, h9], by simp only [get_put, n_put, ↓reduceIte, Nat.reduceEqDiff], by simp only [get_put, n_put, ↓reduceIte, Nat.reduceEqDiff]⟩
    | true =>
      rw [if_pos rfl] at hD1e
      have lE : loadA Try.prog s6 32 (.pointer (some ⟨s.next, 0, some 7⟩)) = some (.agg (.string ⟨e.1.toArray⟩ :: re).toArray) := Thing.loadAll agE (by simp [qe, szE]) (ht12.keeps hs26) (by simp [qe])
      obtain ⟨es, hes⟩ : ∃ es, es = Value.string ⟨e.1.toArray⟩ :: re := ⟨_, rfl⟩
      have hel : es.length = 6 := by rw [hes]; simp [qe]
      have hesok : es.all okCell = true := by rw [hes, List.all_cons, hre.ok]; rfl
      rw [← hes] at lE heb
      simp (config := { maxSteps := 1000000, implicitDefEqProofs := false }) (disch := omega) only [allW, allR, oneOf, evalAll, partsA, optA, Nat.reduceLT, Nat.reduceLeDiff, Nat.reduceEqDiff, Nat.reduceAdd, ↓reduceIte, hn, h0, h3, h5, h6, h9, lE, buildAgg1 (cs := es.toArray) Try.underlying24 szE zE plE rfl hel (by decide)]
      refine wstep_newSlice (by rw [hel]) ?_
      intro b s7 hb7 hbF7 hst7
      simp (config := { maxSteps := 1000000, implicitDefEqProofs := false }) (disch := omega) only [allW, allR, oneOf, evalAll, partsA, optA, Nat.reduceLT, Nat.reduceLeDiff, Nat.reduceEqDiff, Nat.reduceAdd, ↓reduceIte, hn, h0, h3, h5, h6, h9]
      refine wstep_append Try.underlying24 Try.underlying24 (.inl ⟨_, rfl⟩) szE byE zE rfl (hy6.keeps hst7) hb7.sees.src hel (by decide) hesok (by omega) (by omega) hyF (by have := hs26.next; have := hst7.next; omega) ?_
      intro y' s8 hy8 hyF8 hst8 htu8 _
      have hs28 : Stay s2.next s2 s8 := (hs26.trans (hst7.weaken hs26.next)).trans hst8
      have hs08 : Stay s.next s s8 := hs2.trans (hs28.weaken hs2.next)
      simp (config := { maxSteps := 1000000, implicitDefEqProofs := false }) (disch := omega) only [allW, allR, oneOf, evalAll, partsA, optA, Nat.reduceLT, Nat.reduceLeDiff, Nat.reduceEqDiff, Nat.reduceAdd, ↓reduceIte, hn, h0, h3, h5, h6, h9]
      exact hQ _ _ ⟨y', _, by rw [hD1e, List.length_append, htl]; exact hy8, by rw [hD1e]; exact ((hDb.take k hle).keeps rowedE hs08).snoc hel (rowedE.keeps heb hs08), hyF8, hs28, by simp only [get_put, n_put, ↓reduceIte, Nat.reduceEqDiff, hn], by simp only [get_put, n_put, ↓reduceIte, Nat.reduceEqDiff, h0], by simp only [get_put, n_put, ↓reduceIte, Nat.reduceEqDiff, h9], by simp only [get_put, n_put, ↓reduceIte, Nat.reduceEqDiff], by simp only [get_put, n_put, ↓reduceIte, Nat.reduceEqDiff]⟩
  clear hn h0 h3 h5 h6 h9 f
  rintro f s7 ⟨y, LY, hyo, hyr, hyF, hs27, hn, h0, h9, h10, h11⟩
  have hs07 : Stay s.next s s7 := hs2.trans (hs27.weaken hs2.next)
  have hx7 := hx.keeps hs07
  have hsl := hx7.sliceLow (P := Try.prog) Try.underlying24 szE (k := .i64) (x := (k : Int)) (by omega) (by omega)
  rw [Int.toNat_natCast] at hsl
  have hcut2 := hx7.cut (lo := k) (hi := D.length) hle (Nat.le_refl _)
  rw [List.take_of_length_le (by rw [List.length_drop, hlx, Nat.sub_mul]; omega)] at hcut2
  simp (config := { maxSteps := 1000000, implicitDefEqProofs := false }) (disch := omega) only [allW, allR, oneOf, evalAll, partsA, optA, Nat.reduceLT, Nat.reduceLeDiff, Nat.reduceEqDiff, Nat.reduceAdd, ↓reduceIte, hn, h0, h9, h10, h11, hyo.self, hx7.self, hsl]
  have hlxd : (lx.drop (k * 6)).length = (D.length - k) * 6 := by rw [List.length_drop, hlx, Nat.sub_mul]
  have hrow2 : ∀ i, i < D.length - k → (((lx.drop (k * 6)).drop (i * 6)).take 6).all okCell = true := fun i hi => entOk (hD2.row i (by omega))
  refine (cloneE hlc s7 _ (D.length - k) _ hcut2 (by omega) (rows_ok (by decide) _ _ hlxd hrow2)).mono ?_
  rintro w s8 ⟨hw, hwF, hs8⟩
  simp (config := { maxSteps := 1000000, implicitDefEqProofs := false }) (disch := omega) only [allW, allR, oneOf, evalAll, partsA, optA, Nat.reduceLT, Nat.reduceLeDiff, Nat.reduceEqDiff, Nat.reduceAdd, ↓reduceIte, hn, h0, h9, h10, h11, hw.self]
  have hs28 : Stay s2.next s2 s8 := hs27.trans (hs8.weaken hs27.next)
  have hs28n := hs27.next
  have hn78 := hs8.next
  refine (delE hld hli 64 [.pointer (some ⟨s1.next, 0, some 2⟩), .pointer (some ⟨s.next, 0, some 7⟩)] s8 w (D.length - k) _ hw (by omega) hrow2 (onE (D.drop k) (fun y => y.1 == e.1)) (fun i hi s' hs' => ?_)).mono ?_
  · obtain ⟨r, hr1, hr2, -⟩ := hD2.row i (by omega)
    rw [hr1]
    have hs2' := hs28.trans ((hs'.keeps hwF hn78).weaken hs28n)
    refine (clo2 hl2 hlk hls hlb hp s' _ e.1 r re hr2.len qe s1.next s.next (ht2.keeps hs2') (ht12.keeps hs2')).mono ?_
    rintro _ s'' ⟨rfl, h⟩
    refine ⟨?_, h⟩
    rw [onE_at (by omega)]
    congr 1
    rw [decide_eq_decide.2 (compareBytes_eq _ _)]
    by_cases q : (D.drop k)[i].1 = e.1
    · rw [decide_eq_true q]; exact (beq_iff_eq.2 q).symm
    · rw [decide_eq_false q]; exact (beq_eq_false_iff_ne.2 q).symm
  rintro u s9 ⟨hu, htu, hui⟩
  have hs79 : Stay s7.next s7 s9 := hs8.trans (htu.keeps hwF hn78)
  have hs09 : Stay s.next s s9 := hs07.trans (hs79.weaken hs07.next)
  obtain ⟨p2, hp2⟩ : ∃ p2, p2 = onE (D.drop k) (fun y => y.1 == e.1) := ⟨_, rfl⟩
  rw [← hp2] at hu
  have hkr := ((hDb.drop k hle).keeps rowedE hs09).kept p2 (D.length - k) (by omega)
  have hkc := keptC_len (l := lx.drop (k * 6)) (z := 6) p2 hlxd (D.length - k) (Nat.le_refl _)
  have hkn : (keptD (D.drop k) p2 (D.length - k)).length = keptN p2 (D.length - k) := by have := hkr.len; omega
  have hkl := keptN_le p2 (D.length - k)
  have hkf : keptD (D.drop k) p2 (D.length - k) = others e.1 (D.drop k) := by
    rw [keptD_filter (q := fun y => y.1 == e.1) (D.length - k) (by omega) (fun i hi => by rw [hp2, onE_at hi]), List.take_of_length_le (by omega)]
    rfl
  have hok2 : (keptC (lx.drop (k * 6)) 6 p2 (D.length - k)).all okCell = true := rows_ok (by decide) (keptN p2 (D.length - k)) _ hkc (fun i hi => entOk (hkr.row i (by omega)))
  simp (config := { maxSteps := 1000000, implicitDefEqProofs := false }) (disch := omega) only [allW, allR, oneOf, evalAll, partsA, optA, Nat.reduceLT, Nat.reduceLeDiff, Nat.reduceEqDiff, Nat.reduceAdd, ↓reduceIte, hn, h0, h9, h10, h11, hu.self]
  refine wstep_append Try.underlying24 Try.underlying24 (.inl ⟨_, rfl⟩) szE byE zE rfl (hyo.keeps hs79) hu.src hkc (by decide) hok2 (by omega) (by omega) hyF (by have := hs27.next; have := hs79.next; omega) ?_
  intro y' s10 hy10 hyF10 hst10 htu10 _
  have hs010 : Stay s.next s s10 := hs09.trans (hst10.weaken hs2.next)
  simp (config := { maxSteps := 1000000, implicitDefEqProofs := false }) (disch := omega) only [allW, allR, wfn_ret, wfn_normal, oneOf, evalAll, partsA, optA, Nat.reduceLT, Nat.reduceLeDiff, Nat.reduceEqDiff, Nat.reduceAdd, ↓reduceIte, hn, h0, h9, h10, h11, Try.results47]
  have hput : putK D e keep = D1 ++ others e.1 (D.drop k) := by
    unfold putK
    rw [← hk, hD1e]
    congr 2
    rw [hk, others_ahead]
  have hrows := (hyr.keeps rowedE hs79).append hkr
  rw [hkf, ← hput] at hrows
  refine ⟨LY ++ keptC (lx.drop (k * 6)) 6 p2 (D.length - k), ?_, fun j hj => by have := hyF10 j hj; omega, hs010, ?_⟩
  · rw [hput, List.length_append, ← hkf, hkn]; exact hy10
  · rw [hFB] at hrows
    exact hrows.turns rowedE htu10 (fun j hj e' => by have := hyF _ e'; have := hj.2; omega)
end Go.Proofs.Ytdhdhbkikhedlaa
