/-
  The statement CosEdits: an object that may be, with entries set and dropped in turn: what it is then, what each key has; the one that was handed in stays: the law returns true.
  Conditions: none.
-/
import Derived.Test.YtdhdhbkikhedlaaRows
import Derived.Test.YtdhdhbkikhedlaaCosU
import Derived.Test.YtdhdhbkikhedlaaObjL
import Derived.Test.YtdhdhbkikhedlaaCosR
import Derived.Test.YtdhdhbkikhedlaaCosM
import Derived.Test.YtdhdhbkikhedlaaCosS
set_option linter.unusedSimpArgs false
set_option linter.unusedVariables false
namespace Go.Cl
theorem small_put {k n : Int} {b : List UInt8} {l d : List (List UInt8 × O)} {L : List O} (hb : b.length ≤ 100000) (hL : L.length ≤ 100000) (hLs : ∀ x ∈ L, Small x) (hd : d.length + l.length ≤ 100000) (h1 : ∀ e ∈ d, e.1.length ≤ 100000 ∧ Small e.2) (h2 : ∀ e ∈ l, e.1.length ≤ 100000 ∧ Small e.2) : Small (.mk k n b L (putAll d l)) := by
  have h3 := putAll_len d l
  have h4 : ∀ e ∈ putAll d l, e.1.length ≤ 100000 ∧ Small e.2 := fun e he => by
    rcases putAll_mem l d he with h | h
    · exact h1 e h
    · exact h2 e h
  exact .mk hb hL (by omega) (fun e he => (h4 e he).1) hLs (fun e he => (h4 e he).2)
theorem setO_small {o : O} {l : List (List UInt8 × O)} {m : Nat} (ho : Small o) (hn : o.ents.length ≤ m) (hm : m + l.length ≤ 100000) (hl : ∀ e ∈ l, e.1.length ≤ 100000 ∧ Small e.2) : Small (setO o l) ∧ (setO o l).ents.length ≤ m + l.length := by
  cases o with
  | mk k n b L d =>
  cases ho with
  | mk hb hL hd hK hLs hD =>
  have hn : d.length ≤ m := hn
  unfold setO
  split
  · refine ⟨small_put hb hL hLs (by simp only [O.ents]; omega) (fun e he => ⟨hK e he, hD e he⟩) hl, ?_⟩
    have := putAll_len d l
    show (putAll d l).length ≤ _
    omega
  · exact ⟨.mk hb hL hd hK hLs hD, by show d.length ≤ _; omega⟩
theorem setO_has (o : O) (l : List (List UInt8 × O)) : (setO o l).has = o.has := by
  unfold setO
  split
  · cases o; rfl
  · rfl
theorem putE_null {d : List (List UInt8 × O)} {k : List UInt8} : putE d (k, O.none) = others k d := by
  unfold putE
  have : (O.none).kind = 0 := rfl
  simp only [this, if_true]
  unfold others
  rw [List.append_nil, ← List.filter_append, List.take_append_drop]
theorem others_lenE (k : List UInt8) (d : List (List UInt8 × O)) : (others k d).length ≤ d.length := List.length_filter_le _ _
theorem putAll_drop : ∀ (K : List (List UInt8)) (d : List (List UInt8 × O)), (putAll d (dropsK K)).length ≤ d.length ∧ ∀ e ∈ putAll d (dropsK K), e ∈ d := by
  intro K
  induction K with
  | nil => intro d; exact ⟨Nat.le_refl _, fun e h => h⟩
  | cons a K ih =>
    intro d
    have e : putAll d (dropsK (a :: K)) = putAll (others a d) (dropsK K) := by
      show putAll (putE d (a, O.none)) (dropsK K) = _
      rw [putE_null]
    rw [e]
    obtain ⟨h1, h2⟩ := ih (others a d)
    exact ⟨Nat.le_trans h1 (others_lenE _ _), fun e he => others_sub (h2 e he)⟩
theorem setO_drop_small {o : O} {K : List (List UInt8)} (ho : Small o) : Small (setO o (dropsK K)) := by
  cases o with
  | mk k n b L d =>
  cases ho with
  | mk hb hL hd hK hLs hD =>
  unfold setO
  split
  · obtain ⟨h1, h2⟩ := putAll_drop K d
    exact .mk hb hL (by show (putAll d (dropsK K)).length ≤ _; omega) (fun e he => hK e (h2 e he)) hLs (fun e he => hD e (h2 e he))
  · exact .mk hb hL hd hK hLs hD
/-- What was dropped is not there. -/
theorem dropped {k : List UInt8} : ∀ (K : List (List UInt8)) (d : List (List UInt8 × O)), k ∈ K ∨ (∀ e ∈ d, e.1 ≠ k) → ∀ e ∈ putAll d (dropsK K), e.1 ≠ k := by
  intro K
  induction K with
  | nil =>
    intro d h
    rcases h with h | h
    · cases h
    · exact h
  | cons a K ih =>
    intro d h
    have e : putAll d (dropsK (a :: K)) = putAll (others a d) (dropsK K) := by
      show putAll (putE d (a, O.none)) (dropsK K) = _
      rw [putE_null]
    rw [e]
    refine ih _ ?_
    rcases h with h | h
    · rcases List.mem_cons.1 h with h | h
      · right
        intro e he
        subst h
        have := (List.mem_filter.1 he).2
        simpa using this
      · exact .inl h
    · exact .inr (fun e he => h e (others_sub he))
theorem findE_absent {d : List (List UInt8 × O)} {k : List UInt8} (h : ∀ e ∈ d, e.1 ≠ k) : findE d k = O.none := findE_none (fun j hj => h _ (List.getElem_mem hj))
theorem getO_dropped {o : O} {K : List (List UInt8)} {k : List UInt8} (h : k ∈ K) : getO (setO o (dropsK K)) k = O.none := by
  unfold getO
  rw [setO_has]
  split
  · rename_i hh
    refine findE_absent ?_
    unfold setO
    rw [if_pos hh]
    cases o
    exact dropped K _ (.inl h)
  · rfl
end Go.Cl
namespace Go.Proofs.Ytdhdhbkikhedlaa.cosEdits
open Go.ChangeShapes Go.WideShapes Go.ChangeAt Go.RowKit Go.Cl Go.Lib
set_option maxRecDepth 100000 in
set_option maxHeartbeats 8000000 in
theorem law (s : ASt) (co : List Value) (o : O) (ho : OIs (fun _ => True) s co o) (fo : Fit o) (x : Value) (D : List (List UInt8 × O)) (lx : List Value) (hx : Sees s 6 x D.length lx) (hD : ORows EntIs 6 (fun _ => True) s D lx) (hp : ∀ e ∈ D, FitE e) (hk : D.length ≤ 140737488351232) (y : Value) (K : List (List UInt8)) (hy : Sees s 1 y K.length (Cl.strs K)) (hkl : ∀ k ∈ K, k.length ≤ 140737488351232) (hkb : K.length ≤ 140737488351232) :
    Runs Try.prog libN 3 [.agg co.toArray, x, y] s fun v _ => v = .bool true := by
  obtain ⟨QQ, hQQ⟩ : ∃ QQ : Value → ASt → Prop, QQ = fun v _ => v = .bool true := ⟨_, rfl⟩
  rw [← hQQ]
  have hcl := ho.len
  refine Runs.enter 131 Try.func3 rfl rfl rfl rfl ?_
  intro f hn hf
  have h0 : f.get 0 = .agg co.toArray := hf 0
  have h1 : f.get 1 = x := hf 1
  have h2 : f.get 2 = y := hf 2
  clear hf
  simp (config := { maxSteps := 1000000, implicitDefEqProofs := false }) (disch := omega) only [allW, allR, oneOf, evalAll, partsA, optA, Nat.reduceLT, Nat.reduceLeDiff, Nat.reduceEqDiff, Nat.reduceAdd, ↓reduceIte, hn, h0, h1, h2]
  refine wstep_newPtr ?_
  intro s1 ht1 hst1 hnx1
  simp (config := { maxSteps := 1000000, implicitDefEqProofs := false }) (disch := omega) only [allW, allR, oneOf, evalAll, partsA, optA, Nat.reduceLT, Nat.reduceLeDiff, Nat.reduceEqDiff, Nat.reduceAdd, ↓reduceIte, hn, h0, h1, h2, hcl]
  refine (awake_any rfl libC s1).mono ?_
  rintro _ s1' ⟨rfl, ka⟩
  have hka : Stay s.next s s1' := hst1.trans (ka.weaken hst1.next)
  have xo : ∀ t, Stay s1.next s1 t → loadA Try.prog t 26 (.pointer (some ⟨s.next, 0, some 6⟩)) = some (.agg co.toArray) := fun t h => Thing.loadO (ht1.keeps h) hcl
  simp (config := { maxSteps := 1000000, implicitDefEqProofs := false }) (disch := omega) only [allW, allR, oneOf, evalAll, partsA, optA, Nat.reduceLT, Nat.reduceLeDiff, Nat.reduceEqDiff, Nat.reduceAdd, ↓reduceIte, hn, h0, h1, h2, xo _ ka]
  refine (rmayTop_any rfl rfl rfl rfl rfl rfl o _ s1' _ (ho.keeps hka) fo).mono ?_
  rintro _ s1b ⟨⟨t1, rfl, _⟩, kb⟩
  have kab := ka.trans (kb.weaken ka.next)
  have hkb2 : Stay s.next s s1b := hst1.trans (kab.weaken hst1.next)
  cases t1 with
  | false =>
    simp (config := { maxSteps := 1000000, implicitDefEqProofs := false }) (disch := omega) only [allW, allR, wfn_ret, wfn_normal, oneOf, evalAll, partsA, optA, Nat.reduceLT, Nat.reduceLeDiff, Nat.reduceEqDiff, Nat.reduceAdd, ↓reduceIte, hn, h0, h1, h2, Try.results3]
    rw [hQQ]
  | true =>
  simp (config := { maxSteps := 1000000, implicitDefEqProofs := false }) (disch := omega) only [allW, allR, oneOf, evalAll, partsA, optA, Nat.reduceLT, Nat.reduceLeDiff, Nat.reduceEqDiff, Nat.reduceAdd, ↓reduceIte, hn, h0, h1, h2, xo _ kab]
  refine (room_any rfl 60 (by decide) _ o (Nat.le_refl _) _ s1b _ 8 (ho.keeps hkb2) fo (by decide) (by decide)).mono ?_
  rintro _ s2 ⟨⟨t3, rfl, so⟩, kc⟩
  have k12 := kab.trans (kc.weaken kab.next)
  have h02 : Stay s.next s s2 := hst1.trans (k12.weaken hst1.next)
  cases t3 with
  | false =>
    simp (config := { maxSteps := 1000000, implicitDefEqProofs := false }) (disch := omega) only [allW, allR, wfn_ret, wfn_normal, oneOf, evalAll, partsA, optA, Nat.reduceLT, Nat.reduceLeDiff, Nat.reduceEqDiff, Nat.reduceAdd, ↓reduceIte, hn, h0, h1, h2, Try.results3]
    rw [hQQ]
  | true =>
  obtain ⟨so, son⟩ := so rfl
  have hx2 := hx.keeps h02
  have hy2 := hy.keeps h02
  by_cases c1 : (30 : Int) < D.length
  · simp (config := { maxSteps := 1000000, implicitDefEqProofs := false }) (disch := omega) only [allW, allR, wfn_ret, wfn_normal, oneOf, evalAll, partsA, optA, Nat.reduceLT, Nat.reduceLeDiff, Nat.reduceEqDiff, Nat.reduceAdd, ↓reduceIte, hn, h0, h1, h2, hx2.lenA Try.underlying24, eq_true c1, Try.results3]
    rw [hQQ]
  by_cases c2 : (30 : Int) < K.length
  · simp (config := { maxSteps := 1000000, implicitDefEqProofs := false }) (disch := omega) only [allW, allR, wfn_ret, wfn_normal, oneOf, evalAll, partsA, optA, Nat.reduceLT, Nat.reduceLeDiff, Nat.reduceEqDiff, Nat.reduceAdd, ↓reduceIte, hn, h0, h1, h2, hx2.lenA Try.underlying24, hy2.lenA Try.underlying27, eq_false c1, eq_true c2, Try.results3]
    rw [hQQ]
  simp (config := { maxSteps := 1000000, implicitDefEqProofs := false }) (disch := omega) only [allW, allR, oneOf, evalAll, partsA, optA, Nat.reduceLT, Nat.reduceLeDiff, Nat.reduceEqDiff, Nat.reduceAdd, ↓reduceIte, hn, h0, h1, h2, hx2.lenA Try.underlying24, hy2.lenA Try.underlying27, eq_false c1, eq_false c2]
  have hD0 := hD.below rowedE
  obtain ⟨F0, hF0⟩ : ∃ F0 : Nat → Prop, F0 = fun j => True ∧ j < s.next := ⟨_, rfl⟩
  rw [← hF0] at hD0
  have hD2 := hD0.keeps rowedE h02
  refine Comes.loopOut (fun z f t => ∃ i : Nat, z = D.length - i ∧ i ≤ D.length ∧ (∀ j (h : j < D.length), j < i → (D[j].1).length ≤ 300 ∧ Small D[j].2) ∧ Stay s2.next s2 t ∧ f.n = 131 ∧ f.get 1 = x ∧ f.get 2 = y ∧ f.get 3 = .pointer (some ⟨s.next, 0, some 6⟩) ∧ f.get 7 = .int .i64 (i : Nat))
    (fun z f t => (z = .ret ∧ f.n = 131 ∧ f.get 6 = .bool true) ∨ (z = .exit 0 ∧ (∀ j (h : j < D.length), (D[j].1).length ≤ 300 ∧ Small D[j].2) ∧ Stay s2.next s2 t ∧ f.n = 131 ∧ f.get 1 = x ∧ f.get 2 = y ∧ f.get 3 = .pointer (some ⟨s.next, 0, some 6⟩)))
    ⟨0, rfl, by omega, fun j h h' => by omega, Stay.refl _ _, by simp only [get_put, n_put, ↓reduceIte, Nat.reduceEqDiff, hn], by simp only [get_put, n_put, ↓reduceIte, Nat.reduceEqDiff, h1], by simp only [get_put, n_put, ↓reduceIte, Nat.reduceEqDiff, h2], by simp only [get_put, n_put, ↓reduceIte, Nat.reduceEqDiff], by simp only [get_put, n_put, ↓reduceIte, Nat.reduceEqDiff]; rfl⟩ ?_ ?_
  · clear hn h0 h1 h2 f
    rintro Q hQ z f t ⟨i, rfl, hi, hP, hst, hn, h1, h2, h3, h7⟩
    have hxt := hx2.keeps hst
    by_cases hlt : i < D.length
    rotate_left
    · obtain rfl : i = D.length := by omega
      have d1 : ¬ ((D.length : Nat) : Int) < ((D.length : Nat) : Int) := by omega
      simp (config := { maxSteps := 1000000, implicitDefEqProofs := false }) (disch := omega) only [allW, allR, oneOf, evalAll, partsA, optA, Nat.reduceLT, Nat.reduceLeDiff, Nat.reduceEqDiff, Nat.reduceAdd, ↓reduceIte, hn, h1, h2, h3, h7, hxt.lenA Try.underlying24, eq_false d1]
      exact hQ _ _ _ (.inr ⟨rfl, fun j h => hP j h h, hst, by simp only [get_put, n_put, ↓reduceIte, Nat.reduceEqDiff, hn], by simp only [get_put, n_put, ↓reduceIte, Nat.reduceEqDiff, h1], by simp only [get_put, n_put, ↓reduceIte, Nat.reduceEqDiff, h2], by simp only [get_put, n_put, ↓reduceIte, Nat.reduceEqDiff, h3]⟩)
    have d1 : (i : Int) < (D.length : Int) := by omega
    have hix := hxt.indexAddr (P := Try.prog) (k := .i64) (x := (i : Int)) Try.underlying24 szE (by omega) (by omega)
    rw [Int.toNat_natCast] at hix
    obtain ⟨q0, q1⟩ := efE hxt hlt
    obtain ⟨r, hr1, hr2, hr3⟩ := hD2.row i hlt
    obtain ⟨hk6, hv6⟩ := chunk6 hr1
    have hlk := hxt.loadField (P := Try.prog) agStr hlt (j := 0) (by omega)
    rw [Nat.add_zero, hk6] at hlk
    have hlv := hxt.loadPart (P := Try.prog) agO szO hlt (j := 1) (by omega)
    rw [hv6] at hlv
    have hfi := hp _ (List.getElem_mem hlt)
    have hfk := hfi.1
    by_cases c3 : (300 : Int) < (D[i].1).length
    · simp (config := { maxSteps := 1000000, implicitDefEqProofs := false }) (disch := omega) only [allW, allR, oneOf, evalAll, partsA, optA, Nat.reduceLT, Nat.reduceLeDiff, Nat.reduceEqDiff, Nat.reduceAdd, ↓reduceIte, hn, h1, h2, h3, h7, hxt.lenA Try.underlying24, eq_true d1, hix, q0, q1, hlk, str_len Try.underlying9, eq_true c3]
      exact hQ _ _ _ (.inl ⟨rfl, by simp only [get_put, n_put, ↓reduceIte, Nat.reduceEqDiff, hn], by simp only [get_put, n_put, ↓reduceIte, Nat.reduceEqDiff]⟩)
    simp (config := { maxSteps := 1000000, implicitDefEqProofs := false }) (disch := omega) only [allW, allR, oneOf, evalAll, partsA, optA, Nat.reduceLT, Nat.reduceLeDiff, Nat.reduceEqDiff, Nat.reduceAdd, ↓reduceIte, hn, h1, h2, h3, h7, hxt.lenA Try.underlying24, eq_true d1, hix, q0, q1, hlk, hlv, str_len Try.underlying9, eq_false c3]
    refine (room_any rfl 40 (by decide) _ D[i].2 (Nat.le_refl _) _ t _ 6 (hr2.keeps hst) hfi.2 (by decide) (by decide)).mono ?_
    rintro _ t2 ⟨⟨u, rfl, hu⟩, k2⟩
    have hst2 := hst.trans (k2.weaken hst.next)
    have hxt2 := hxt.keeps k2
    have hlv2 := hxt2.loadPart (P := Try.prog) agO szO hlt (j := 1) (by omega)
    rw [hv6] at hlv2
    cases u with
    | false =>
      simp (config := { maxSteps := 1000000, implicitDefEqProofs := false }) (disch := omega) only [allW, allR, oneOf, evalAll, partsA, optA, Nat.reduceLT, Nat.reduceLeDiff, Nat.reduceEqDiff, Nat.reduceAdd, ↓reduceIte, hn, h1, h2, h3, h7, Bool.not_false]
      exact hQ _ _ _ (.inl ⟨rfl, by simp only [get_put, n_put, ↓reduceIte, Nat.reduceEqDiff, hn], by simp only [get_put, n_put, ↓reduceIte, Nat.reduceEqDiff]⟩)
    | true =>
    have hu := (hu rfl).1
    simp (config := { maxSteps := 1000000, implicitDefEqProofs := false }) (disch := omega) only [allW, allR, oneOf, evalAll, partsA, optA, Nat.reduceLT, Nat.reduceLeDiff, Nat.reduceEqDiff, Nat.reduceAdd, ↓reduceIte, hn, h1, h2, h3, h7, Bool.not_true, hix, q0, q1, hlv2]
    refine (rmayTop_any rfl rfl rfl rfl rfl rfl D[i].2 _ t2 _ (hr2.keeps hst2) hfi.2).mono ?_
    rintro _ t3 ⟨⟨u, rfl, _⟩, k3⟩
    have hst3 := hst2.trans (k3.weaken hst2.next)
    cases u with
    | false =>
      simp (config := { maxSteps := 1000000, implicitDefEqProofs := false }) (disch := omega) only [allW, allR, oneOf, evalAll, partsA, optA, Nat.reduceLT, Nat.reduceLeDiff, Nat.reduceEqDiff, Nat.reduceAdd, ↓reduceIte, hn, h1, h2, h3, h7, Bool.not_false]
      exact hQ _ _ _ (.inl ⟨rfl, by simp only [get_put, n_put, ↓reduceIte, Nat.reduceEqDiff, hn], by simp only [get_put, n_put, ↓reduceIte, Nat.reduceEqDiff]⟩)
    | true =>
    simp (config := { maxSteps := 1000000, implicitDefEqProofs := false }) (disch := omega) only [allW, allR, oneOf, evalAll, partsA, optA, Nat.reduceLT, Nat.reduceLeDiff, Nat.reduceEqDiff, Nat.reduceAdd, ↓reduceIte, hn, h1, h2, h3, h7, Bool.not_true, wrapI]
    refine wround_next (D.length - (i + 1)) (by omega) ⟨i + 1, rfl, by omega, fun j h hj => ?_, hst3, by simp only [get_put, n_put, ↓reduceIte, Nat.reduceEqDiff, hn], by simp only [get_put, n_put, ↓reduceIte, Nat.reduceEqDiff, h1], by simp only [get_put, n_put, ↓reduceIte, Nat.reduceEqDiff, h2], by simp only [get_put, n_put, ↓reduceIte, Nat.reduceEqDiff, h3], by simp only [get_put, n_put, ↓reduceIte, Nat.reduceEqDiff]; rfl⟩
    by_cases hji : j = i
    · subst hji; exact ⟨by omega, hu⟩
    · exact hP j h (by omega)
  clear hn h0 h1 h2 f
  rintro z f t (⟨rfl, hn, h6⟩ | ⟨rfl, hall, hst, hn, h1, h2, h3⟩)
  · simp (config := { maxSteps := 1000000, implicitDefEqProofs := false }) (disch := omega) only [allW, allR, wfn_ret, wfn_normal, oneOf, evalAll, partsA, optA, Nat.reduceLT, Nat.reduceLeDiff, Nat.reduceEqDiff, Nat.reduceAdd, ↓reduceIte, hn, h6, Try.results3]
    rw [hQQ]
  have hall' : ∀ e ∈ D, e.1.length ≤ 100000 ∧ Small e.2 := fun e he => by
    obtain ⟨j, hj, rfl⟩ := List.mem_iff_getElem.1 he
    have := hall j hj
    exact ⟨by omega, this.2⟩
  have hall2 : ∀ e ∈ D, Small e.2 := fun e he => (hall' e he).2
  have k1t : Stay s1.next s1 t := k12.trans (hst.weaken k12.next)
  have h0t : Stay s.next s t := hst1.trans (k1t.weaken hst1.next)
  have n0t := h0t.next
  have n1 := hst1.next
  simp (config := { maxSteps := 1000000, implicitDefEqProofs := false }) (disch := omega) only [allW, allR, oneOf, evalAll, partsA, optA, Nat.reduceLT, Nat.reduceLeDiff, Nat.reduceEqDiff, Nat.reduceAdd, ↓reduceIte, hn, h1, h2, h3, xo _ k1t]
  refine (rcopyO rfl rfl _ o (Nat.le_refl _) _ t _ (ho.keeps h0t) so).mono ?_
  rintro _ t1 ⟨cw, rfl, ow, k1⟩
  have lw := ow.len
  have k11 := k1t.trans (k1.weaken k1t.next)
  simp (config := { maxSteps := 1000000, implicitDefEqProofs := false }) (disch := omega) only [allW, allR, oneOf, evalAll, partsA, optA, Nat.reduceLT, Nat.reduceLeDiff, Nat.reduceEqDiff, Nat.reduceAdd, ↓reduceIte, hn, h1, h2, h3, zO, plO]
  refine wstep_newPtr ?_
  intro t2 ht2 k2 hnx2
  have hd6 : noneC.length + 1 = 6 := rfl
  simp (config := { maxSteps := 1000000, implicitDefEqProofs := false }) (disch := omega) only [allW, allR, oneOf, evalAll, partsA, optA, Nat.reduceLT, Nat.reduceLeDiff, Nat.reduceEqDiff, Nat.reduceAdd, ↓reduceIte, hn, h1, h2, h3, hd6]
  refine wstep_storeAll szO (by decide) ht2 rfl rfl lw ow.ok ?_
  intro t3 ht3 hnx3 hot3
  have ht3' : Thing t3 t1.next cw := ht3
  have k13 : Stay t1.next t1 t3 := k2.trans ⟨by omega, fun j hj => hot3 j (by omega)⟩
  have n1t := k1t.next
  have n11 := k11.next
  have n13 := k13.next
  have q3 : Stay s1.next s1 t3 := k11.trans (k13.weaken n11)
  have h03 : Stay s.next s t3 := hst1.trans (q3.weaken n1)
  have n3 := q3.next
  have hlt3 := ht3'.lt
  have ow3 := ow.keeps k13
  have hx3 := hx.keeps h03
  have hy3 := hy.keeps h03
  have hD3 := hD0.keeps rowedE h03
  have ho3 := ho.lows.keeps h03
  simp (config := { maxSteps := 1000000, implicitDefEqProofs := false }) (disch := omega) only [allW, allR, oneOf, evalAll, partsA, optA, Nat.reduceLT, Nat.reduceLeDiff, Nat.reduceEqDiff, Nat.reduceAdd, ↓reduceIte, hn, h1, h2, h3]
  obtain ⟨A, hA⟩ : ∃ A : Nat → Bool, A = fun j => decide (j < t3.next) := ⟨_, rfl⟩
  have hAl : ∀ j, A j = true → j < t3.next := by
    intro j h
    rw [hA] at h
    exact of_decide_eq_true h
  have hAo : ∀ j, j < t3.next → A j = true := fun j h => by rw [hA]; exact decide_eq_true h
  refine LB.Drawn.looseK A hAl 2 2 (by kernel_rfl) (by kernel_rfl) ?_
  have hsp := Stay.spare t3 2
  have hnT : (spare t3 2).next = t3.next + 2 := spare_next _ _
  have hlo : ∀ k, LA.lowV A (some (.pointer (some ⟨s.next, k, some 6⟩))) = true := fun k => LA.lowV_ptr (A := A) (i := s.next) (hAo _ (by omega))
  have zo : ∀ t, Stay t3.next t3 t → loadA Try.prog t 26 (.pointer (some ⟨s.next, 0, some 6⟩)) = some (.agg co.toArray) := fun t h => xo t (q3.trans (h.weaken n3))
  have oo : ∀ t, Stay t3.next t3 t → OIs (fun j => True ∧ j < s.next) t co o := fun t h => ho3.keeps h
  simp (config := { maxSteps := 1000000, implicitDefEqProofs := false }) (disch := omega) only [allW, allR, allL, allB, Nat.sub_self, Nat.add_one_sub_one, Nat.reduceSub, oneOf, evalAll, partsA, optA, Nat.reduceLT, Nat.reduceLeDiff, Nat.reduceEqDiff, Nat.reduceAdd, ↓reduceIte, hn, h1, h2, h3, hlo, zo _ hsp, ho.self, hx3.self]
  refine (setC libC _ (spare t3 2) co o ((oo _ hsp).mono (G := F0) (fun j hj => by rw [hF0]; exact hj)) so x D lx (hx3.keeps hsp) (hD3.keeps rowedE hsp) (by omega) hall2).mono ?_
  rintro _ t4 ⟨cx, rfl, ox, k4⟩
  have k34 := hsp.trans (k4.weaken (by omega))
  refine ⟨fun _ => LA.Stay.toA hAl (k4.weaken (by omega)), ?_⟩
  have lx' := ox.len
  simp (config := { maxSteps := 1000000, implicitDefEqProofs := false }) (disch := omega) only [allW, allR, allL, allB, Nat.sub_self, Nat.add_one_sub_one, Nat.reduceSub, oneOf, evalAll, partsA, optA, Nat.reduceLT, Nat.reduceLeDiff, Nat.reduceEqDiff, Nat.reduceAdd, ↓reduceIte, hn, h1, h2, h3, hlo, zo _ k34, ho.self, hx3.self, ox.self]
  refine (rset_any libRf _ t4 co o ((oo _ k34).mono (G := F0) (fun j hj => by rw [hF0]; exact hj)) so x D lx (hx3.keeps k34) (hD3.keeps rowedE k34) (by omega) hall2).mono ?_
  rintro _ t5 ⟨cy, rfl, oy, k5⟩
  have n4 := k34.next
  have k35 := k34.trans (k5.weaken n4)
  refine ⟨fun _ => LA.Stay.toA hAl (k5.weaken (by omega)), ?_⟩
  have ly' := oy.len
  simp (config := { maxSteps := 1000000, implicitDefEqProofs := false }) (disch := omega) only [allW, allR, allL, allB, Nat.sub_self, Nat.add_one_sub_one, Nat.reduceSub, oneOf, evalAll, partsA, optA, Nat.reduceLT, Nat.reduceLeDiff, Nat.reduceEqDiff, Nat.reduceAdd, ↓reduceIte, hn, h1, h2, h3, ox.self, oy.self, zO, plO]
  have n5 := k35.next
  have m4 := k4.next
  have m5 := k5.next
  refine LB.smake_newPtr (by omega) ?_
  intro a1 ha1 na1 ea1
  simp (config := { maxSteps := 1000000, implicitDefEqProofs := false }) (disch := omega) only [allW, allR, allL, allB, Nat.sub_self, Nat.add_one_sub_one, Nat.reduceSub, oneOf, evalAll, partsA, optA, Nat.reduceLT, Nat.reduceLeDiff, Nat.reduceEqDiff, Nat.reduceAdd, ↓reduceIte, hn, h1, h2, h3, zO, plO]
  refine LB.smake_newPtr (by omega) ?_
  intro a2 ha2 na2 ea2
  simp (config := { maxSteps := 1000000, implicitDefEqProofs := false }) (disch := omega) only [allW, allR, allL, allB, Nat.sub_self, Nat.add_one_sub_one, Nat.reduceSub, oneOf, evalAll, partsA, optA, Nat.reduceLT, Nat.reduceLeDiff, Nat.reduceEqDiff, Nat.reduceAdd, ↓reduceIte, hn, h1, h2, h3, hd6]
  refine LB.sstep_storeAll szO (by decide) (ha1.ofPut na2 ea2 (by omega)) rfl rfl (by simpa using ox.len) ox.ok (fun h => absurd rfl h) ?_
  intro a3 ha3 na3 ea3
  have ha3 : Thing a3 t3.next cx := ha3
  simp (config := { maxSteps := 1000000, implicitDefEqProofs := false }) (disch := omega) only [allW, allR, allL, allB, Nat.sub_self, Nat.add_one_sub_one, Nat.reduceSub, oneOf, evalAll, partsA, optA, Nat.reduceLT, Nat.reduceLeDiff, Nat.reduceEqDiff, Nat.reduceAdd, ↓reduceIte, hn, h1, h2, h3, hd6]
  refine LB.sstep_storeAll szO (by decide) (ha2.ofPut na3 ea3 (by omega)) rfl rfl (by simpa using oy.len) oy.ok (fun h => absurd rfl h) ?_
  intro a4 ha4 na4 ea4
  have ha4 : Thing a4 (t3.next + 1) cy := ha4
  have baA : Thing a4 t3.next cx := ha3.ofPut na4 ea4 (by omega)
  have ka : Stay t3.next t3 a4 := k35.trans ⟨by omega, fun j hj => by rw [ea4 j (by omega), ea3 j (by omega), ea2 j (by omega), ea1 j (by omega)]⟩
  have ox4 : OIs (fun j => t3.next + 2 ≤ j) a4 cx _ := ((((ox.keeps k5).mono (G := fun j => t3.next + 2 ≤ j) (fun j (hj : _ ≤ j) => by omega)).ofPut na1 ea1 (by omega)).ofPut na2 ea2 (by omega)).ofPut na3 ea3 (by omega) |>.ofPut na4 ea4 (by omega)
  have oy4 : OIs (fun j => t3.next + 2 ≤ j) a4 cy _ := ((((oy).mono (G := fun j => t3.next + 2 ≤ j) (fun j (hj : _ ≤ j) => by omega)).ofPut na1 ea1 (by omega)).ofPut na2 ea2 (by omega)).ofPut na3 ea3 (by omega) |>.ofPut na4 ea4 (by omega)
  refine LB.scall_reframe (fun f => f.n = 131 ∧ f.get 1 = x ∧ f.get 2 = y ∧ f.get 3 = .pointer (some ⟨s.next, 0, some 6⟩) ∧ f.get 8 = .pointer (some ⟨t1.next, 0, some 6⟩) ∧ f.get 9 = .pointer (some ⟨t3.next, 0, some 6⟩) ∧ f.get 10 = .pointer (some ⟨t3.next + 1, 0, some 6⟩)) ⟨by simp only [get_put, n_put, ↓reduceIte, Nat.reduceEqDiff, hn], by first | simp only [get_put, n_put, ↓reduceIte, Nat.reduceEqDiff, h1] | simp only [get_put, n_put, ↓reduceIte, Nat.reduceEqDiff], by first | simp only [get_put, n_put, ↓reduceIte, Nat.reduceEqDiff, h2] | simp only [get_put, n_put, ↓reduceIte, Nat.reduceEqDiff], by first | simp only [get_put, n_put, ↓reduceIte, Nat.reduceEqDiff, h3] | simp only [get_put, n_put, ↓reduceIte, Nat.reduceEqDiff], by first | simp only [get_put, n_put, ↓reduceIte, Nat.reduceEqDiff, h8] | simp only [get_put, n_put, ↓reduceIte, Nat.reduceEqDiff], by first | simp only [get_put, n_put, ↓reduceIte, Nat.reduceEqDiff, h9] | simp only [get_put, n_put, ↓reduceIte, Nat.reduceEqDiff], by first | simp only [get_put, n_put, ↓reduceIte, Nat.reduceEqDiff, h10] | simp only [get_put, n_put, ↓reduceIte, Nat.reduceEqDiff]⟩ ?_
  rintro f ⟨hn, h1, h2, h3, h8, h9, h10⟩
  clear ha1 ha2 ha3 ea1 ea2 ea3 ea4 ht2 ht3 hot3
  have na := ka.next
  have nA : a4.next = t5.next := by omega
  have qa : Stay s1.next s1 a4 := q3.trans (ka.weaken n3)
  have h0a : Stay s.next s a4 := hst1.trans (qa.weaken n1)
  have ow4 := ow3.keeps ka
  have ht8 := ht3'.keeps ka
  obtain ⟨sx, sxn⟩ := setO_small (l := D) (m := 60) so (by omega) (by omega) hall'
  have hKl : ∀ k ∈ K, k.length ≤ 9223372036854775807 := fun k h => by have := hkl k h; omega
  have hya := hy.keeps h0a
  simp (config := { maxSteps := 1000000, implicitDefEqProofs := false }) (disch := omega) only [allW, allR, allL, allB, Nat.sub_self, Nat.add_one_sub_one, Nat.reduceSub, oneOf, evalAll, partsA, optA, Nat.reduceLT, Nat.reduceLeDiff, Nat.reduceEqDiff, Nat.reduceAdd, ↓reduceIte, hn, h1, h2, h3, h8, h9, h10, hya.self]
  obtain ⟨B, hB⟩ : ∃ B : Nat → Bool, B = fun j => decide (j < a4.next) := ⟨_, rfl⟩
  have hBl : ∀ j, B j = true → j < a4.next := by
    intro j h
    rw [hB] at h
    exact of_decide_eq_true h
  have hBo : ∀ j, j < a4.next → B j = true := fun j h => by rw [hB]; exact decide_eq_true h
  refine LB.Drawn.looseK B hBl 2 2 (by kernel_rfl) (by kernel_rfl) ?_
  have hsq := Stay.spare a4 2
  have hnQ : (spare a4 2).next = a4.next + 2 := spare_next _ _
  have hl9 : ∀ k, LA.lowV B (some (.pointer (some ⟨t3.next, k, some 6⟩))) = true := fun k => LA.lowV_ptr (A := B) (i := t3.next) (hBo _ (by omega))
  have hl10 : ∀ k, LA.lowV B (some (.pointer (some ⟨t3.next + 1, k, some 6⟩))) = true := fun k => LA.lowV_ptr (A := B) (i := t3.next + 1) (hBo _ (by omega))
  have z9 : ∀ t, Stay a4.next a4 t → loadA Try.prog t 26 (.pointer (some ⟨t3.next, 0, some 6⟩)) = some (.agg cx.toArray) := fun t h => Thing.loadO (baA.keeps h) lx'
  have z10 : ∀ t, Stay a4.next a4 t → loadA Try.prog t 26 (.pointer (some ⟨t3.next + 1, 0, some 6⟩)) = some (.agg cy.toArray) := fun t h => Thing.loadO (ha4.keeps h) ly'
  simp (config := { maxSteps := 1000000, implicitDefEqProofs := false }) (disch := omega) only [allW, allR, allL, allB, Nat.sub_self, Nat.add_one_sub_one, Nat.reduceSub, oneOf, evalAll, partsA, optA, Nat.reduceLT, Nat.reduceLeDiff, Nat.reduceEqDiff, Nat.reduceAdd, ↓reduceIte, hn, h1, h2, h3, h8, h9, h10, hl9, hl10, z9 _ hsq, ox.self, hya.self]
  refine (drop_any libC _ (spare a4 2) cx _ (ox4.keeps hsq) sx y K (hya.keeps hsq) (by omega) hKl).mono ?_
  rintro _ t6 ⟨cu, rfl, ou, k6⟩
  have k36 := hsq.trans (k6.weaken (by omega))
  refine ⟨fun _ => LA.Stay.toA hBl (k6.weaken (by omega)), ?_⟩
  have lu := ou.len
  simp (config := { maxSteps := 1000000, implicitDefEqProofs := false }) (disch := omega) only [allW, allR, allL, allB, Nat.sub_self, Nat.add_one_sub_one, Nat.reduceSub, oneOf, evalAll, partsA, optA, Nat.reduceLT, Nat.reduceLeDiff, Nat.reduceEqDiff, Nat.reduceAdd, ↓reduceIte, hn, h1, h2, h3, h8, h9, h10, hl9, hl10, z10 _ k36, ox.self, oy.self, hya.self, ou.self]
  refine (rdrop_any libRf _ t6 cy _ (oy4.keeps k36) sx y K (hya.keeps k36) (by omega) hKl).mono ?_
  rintro _ t7 ⟨cv, rfl, ov, k7⟩
  have n6 := k36.next
  have k37 := k36.trans (k7.weaken n6)
  refine ⟨fun _ => LA.Stay.toA hBl (k7.weaken (by omega)), ?_⟩
  have lv := ov.len
  have n7 := k37.next
  have m6 := k6.next
  have m7 := k7.next
  simp (config := { maxSteps := 1000000, implicitDefEqProofs := false }) (disch := omega) only [allW, allR, allL, allB, Nat.sub_self, Nat.add_one_sub_one, Nat.reduceSub, oneOf, evalAll, partsA, optA, Nat.reduceLT, Nat.reduceLeDiff, Nat.reduceEqDiff, Nat.reduceAdd, ↓reduceIte, hn, h1, h2, h3, h8, h9, h10, ox.self, oy.self, ou.self, ov.self, zO, plO]
  refine LB.smake_newPtr (by omega) ?_
  intro b1 hb1 nb1 eb1
  simp (config := { maxSteps := 1000000, implicitDefEqProofs := false }) (disch := omega) only [allW, allR, allL, allB, Nat.sub_self, Nat.add_one_sub_one, Nat.reduceSub, oneOf, evalAll, partsA, optA, Nat.reduceLT, Nat.reduceLeDiff, Nat.reduceEqDiff, Nat.reduceAdd, ↓reduceIte, hn, h1, h2, h3, h8, h9, h10, zO, plO]
  refine LB.smake_newPtr (by omega) ?_
  intro b2 hb2 nb2 eb2
  simp (config := { maxSteps := 1000000, implicitDefEqProofs := false }) (disch := omega) only [allW, allR, allL, allB, Nat.sub_self, Nat.add_one_sub_one, Nat.reduceSub, oneOf, evalAll, partsA, optA, Nat.reduceLT, Nat.reduceLeDiff, Nat.reduceEqDiff, Nat.reduceAdd, ↓reduceIte, hn, h1, h2, h3, h8, h9, h10, hd6]
  refine LB.sstep_storeAll szO (by decide) (hb1.ofPut nb2 eb2 (by omega)) rfl rfl (by simpa using ou.len) ou.ok (fun h => absurd rfl h) ?_
  intro b3 hb3 nb3 eb3
  have hb3 : Thing b3 a4.next cu := hb3
  simp (config := { maxSteps := 1000000, implicitDefEqProofs := false }) (disch := omega) only [allW, allR, allL, allB, Nat.sub_self, Nat.add_one_sub_one, Nat.reduceSub, oneOf, evalAll, partsA, optA, Nat.reduceLT, Nat.reduceLeDiff, Nat.reduceEqDiff, Nat.reduceAdd, ↓reduceIte, hn, h1, h2, h3, h8, h9, h10, hd6]
  refine LB.sstep_storeAll szO (by decide) (hb2.ofPut nb3 eb3 (by omega)) rfl rfl (by simpa using ov.len) ov.ok (fun h => absurd rfl h) ?_
  intro b4 hb4 nb4 eb4
  have hb4 : Thing b4 (a4.next + 1) cv := hb4
  have bbA : Thing b4 a4.next cu := hb3.ofPut nb4 eb4 (by omega)
  have kb' : Stay a4.next a4 b4 := k37.trans ⟨by omega, fun j hj => by rw [eb4 j (by omega), eb3 j (by omega), eb2 j (by omega), eb1 j (by omega)]⟩
  have ou4 : OIs (fun j => a4.next + 2 ≤ j) b4 cu _ := ((((ou.keeps k7).mono (G := fun j => a4.next + 2 ≤ j) (fun j (hj : _ ≤ j) => by omega)).ofPut nb1 eb1 (by omega)).ofPut nb2 eb2 (by omega)).ofPut nb3 eb3 (by omega) |>.ofPut nb4 eb4 (by omega)
  have ov4 : OIs (fun j => a4.next + 2 ≤ j) b4 cv _ := ((((ov).mono (G := fun j => a4.next + 2 ≤ j) (fun j (hj : _ ≤ j) => by omega)).ofPut nb1 eb1 (by omega)).ofPut nb2 eb2 (by omega)).ofPut nb3 eb3 (by omega) |>.ofPut nb4 eb4 (by omega)
  refine LB.scall_reframe (fun f => f.n = 131 ∧ f.get 1 = x ∧ f.get 2 = y ∧ f.get 3 = .pointer (some ⟨s.next, 0, some 6⟩) ∧ f.get 8 = .pointer (some ⟨t1.next, 0, some 6⟩) ∧ f.get 9 = .pointer (some ⟨t3.next, 0, some 6⟩) ∧ f.get 10 = .pointer (some ⟨t3.next + 1, 0, some 6⟩) ∧ f.get 11 = .pointer (some ⟨a4.next, 0, some 6⟩) ∧ f.get 12 = .pointer (some ⟨a4.next + 1, 0, some 6⟩)) ⟨by simp only [get_put, n_put, ↓reduceIte, Nat.reduceEqDiff, hn], by first | simp only [get_put, n_put, ↓reduceIte, Nat.reduceEqDiff, h1] | simp only [get_put, n_put, ↓reduceIte, Nat.reduceEqDiff], by first | simp only [get_put, n_put, ↓reduceIte, Nat.reduceEqDiff, h2] | simp only [get_put, n_put, ↓reduceIte, Nat.reduceEqDiff], by first | simp only [get_put, n_put, ↓reduceIte, Nat.reduceEqDiff, h3] | simp only [get_put, n_put, ↓reduceIte, Nat.reduceEqDiff], by first | simp only [get_put, n_put, ↓reduceIte, Nat.reduceEqDiff, h8] | simp only [get_put, n_put, ↓reduceIte, Nat.reduceEqDiff], by first | simp only [get_put, n_put, ↓reduceIte, Nat.reduceEqDiff, h9] | simp only [get_put, n_put, ↓reduceIte, Nat.reduceEqDiff], by first | simp only [get_put, n_put, ↓reduceIte, Nat.reduceEqDiff, h10] | simp only [get_put, n_put, ↓reduceIte, Nat.reduceEqDiff], by first | simp only [get_put, n_put, ↓reduceIte, Nat.reduceEqDiff, h11] | simp only [get_put, n_put, ↓reduceIte, Nat.reduceEqDiff], by first | simp only [get_put, n_put, ↓reduceIte, Nat.reduceEqDiff, h12] | simp only [get_put, n_put, ↓reduceIte, Nat.reduceEqDiff]⟩ ?_
  rintro f ⟨hn, h1, h2, h3, h8, h9, h10, h11, h12⟩
  clear hb1 hb2 hb3 eb1 eb2 eb3 eb4
  have nb := kb'.next
  have qb : Stay s1.next s1 b4 := qa.trans (kb'.weaken (by omega))
  have h0b : Stay s.next s b4 := hst1.trans (qb.weaken n1)
  have su := setO_drop_small (K := K) sx
  have hyb := hy.keeps h0b
  have y3 : ∀ t, Stay b4.next b4 t → loadA Try.prog t 26 (.pointer (some ⟨s.next, 0, some 6⟩)) = some (.agg co.toArray) := fun t h => xo t (qb.trans (h.weaken qb.next))
  have y8 : ∀ t, Stay b4.next b4 t → loadA Try.prog t 26 (.pointer (some ⟨t1.next, 0, some 6⟩)) = some (.agg cw.toArray) := fun t h => Thing.loadO ((ht8.keeps kb').keeps h) lw
  have y9 : ∀ t, Stay b4.next b4 t → loadA Try.prog t 26 (.pointer (some ⟨t3.next, 0, some 6⟩)) = some (.agg cx.toArray) := fun t h => Thing.loadO ((baA.keeps kb').keeps h) lx'
  have y10 : ∀ t, Stay b4.next b4 t → loadA Try.prog t 26 (.pointer (some ⟨t3.next + 1, 0, some 6⟩)) = some (.agg cy.toArray) := fun t h => Thing.loadO ((ha4.keeps kb').keeps h) ly'
  have y11 : ∀ t, Stay b4.next b4 t → loadA Try.prog t 26 (.pointer (some ⟨a4.next, 0, some 6⟩)) = some (.agg cu.toArray) := fun t h => Thing.loadO (bbA.keeps h) lu
  have y12 : ∀ t, Stay b4.next b4 t → loadA Try.prog t 26 (.pointer (some ⟨a4.next + 1, 0, some 6⟩)) = some (.agg cv.toArray) := fun t h => Thing.loadO (hb4.keeps h) lv
  have g0 : ∀ t, Stay b4.next b4 t → OIs (fun _ => True) t co o := fun t h => (ho.keeps h0b).keeps h
  have gw : ∀ t, Stay b4.next b4 t → OIs _ t cw o := fun t h => ((ow4.keeps kb').keeps h)
  have gx : ∀ t, Stay b4.next b4 t → OIs _ t cx _ := fun t h => ((ox4.keeps kb').keeps h)
  have gy : ∀ t, Stay b4.next b4 t → OIs _ t cy _ := fun t h => ((oy4.keeps kb').keeps h)
  have gu : ∀ t, Stay b4.next b4 t → OIs _ t cu _ := fun t h => (ou4.keeps h)
  have gv : ∀ t, Stay b4.next b4 t → OIs _ t cv _ := fun t h => (ov4.keeps h)
  have r0 := Stay.refl b4.next b4
  simp (config := { maxSteps := 1000000, implicitDefEqProofs := false }) (disch := omega) only [allW, allR, allL, allB, Nat.sub_self, Nat.add_one_sub_one, Nat.reduceSub, oneOf, evalAll, partsA, optA, Nat.reduceLT, Nat.reduceLeDiff, Nat.reduceEqDiff, Nat.reduceAdd, ↓reduceIte, hn, h1, h2, h3, h8, h9, h10, h11, h12, y9 _ r0, y10 _ r0]
  refine (rsame_any rfl rfl _ _ _ (Nat.le_refl _) _ _ _ _ _ (gx _ r0) (gy _ r0) sx sx).mono ?_
  rintro _ c1 ⟨⟨v1, rfl, e1⟩, r1⟩
  obtain rfl : v1 = true := e1.2 (SameO.self _)
  simp (config := { maxSteps := 1000000, implicitDefEqProofs := false }) (disch := omega) only [allW, allR, allL, allB, Nat.sub_self, Nat.add_one_sub_one, Nat.reduceSub, oneOf, evalAll, partsA, optA, Nat.reduceLT, Nat.reduceLeDiff, Nat.reduceEqDiff, Nat.reduceAdd, ↓reduceIte, hn, h1, h2, h3, h8, h9, h10, h11, h12, y11 _ r1, y12 _ r1]
  refine (rsame_any rfl rfl _ _ _ (Nat.le_refl _) _ _ _ _ _ (gu _ r1) (gv _ r1) su su).mono ?_
  rintro _ c2 ⟨⟨v2, rfl, e2⟩, r2⟩
  obtain rfl : v2 = true := e2.2 (SameO.self _)
  have r02 := r1.trans (r2.weaken r1.next)
  simp (config := { maxSteps := 1000000, implicitDefEqProofs := false }) (disch := omega) only [allW, allR, allL, allB, Nat.sub_self, Nat.add_one_sub_one, Nat.reduceSub, oneOf, evalAll, partsA, optA, Nat.reduceLT, Nat.reduceLeDiff, Nat.reduceEqDiff, Nat.reduceAdd, ↓reduceIte, hn, h1, h2, h3, h8, h9, h10, h11, h12, y3 _ r02, y8 _ r02]
  refine (rsame_any rfl rfl _ _ _ (Nat.le_refl _) _ _ _ _ _ (g0 _ r02) (gw _ r02) so so).mono ?_
  rintro _ c3 ⟨⟨v3, rfl, e3⟩, r3⟩
  obtain rfl : v3 = true := e3.2 (SameO.self _)
  have r03 := r02.trans (r3.weaken r02.next)
  simp (config := { maxSteps := 1000000, implicitDefEqProofs := false }) (disch := omega) only [allW, allR, allL, allB, Nat.sub_self, Nat.add_one_sub_one, Nat.reduceSub, oneOf, evalAll, partsA, optA, Nat.reduceLT, Nat.reduceLeDiff, Nat.reduceEqDiff, Nat.reduceAdd, ↓reduceIte, hn, h1, h2, h3, h8, h9, h10, h11, h12]
  refine Comes.loopOut (fun z f t => ∃ i : Nat, z = K.length - i ∧ i ≤ K.length ∧ Stay b4.next b4 t ∧ f.n = 131 ∧ f.get 2 = y ∧ f.get 9 = .pointer (some ⟨t3.next, 0, some 6⟩) ∧ f.get 10 = .pointer (some ⟨t3.next + 1, 0, some 6⟩) ∧ f.get 11 = .pointer (some ⟨a4.next, 0, some 6⟩) ∧ f.get 13 = .int .i64 (i : Nat))
    (fun z f t => (z = .ret ∧ f.n = 131 ∧ f.get 6 = .bool true) ∨ (z = .exit 2 ∧ f.n = 131))
    ⟨0, rfl, by omega, r03, by simp only [get_put, n_put, ↓reduceIte, Nat.reduceEqDiff, hn], by simp only [get_put, n_put, ↓reduceIte, Nat.reduceEqDiff, h2], by simp only [get_put, n_put, ↓reduceIte, Nat.reduceEqDiff, h9], by simp only [get_put, n_put, ↓reduceIte, Nat.reduceEqDiff, h10], by simp only [get_put, n_put, ↓reduceIte, Nat.reduceEqDiff, h11], by simp only [get_put, n_put, ↓reduceIte, Nat.reduceEqDiff]; rfl⟩ ?_ ?_
  · clear hn h1 h2 h3 h8 h9 h10 h11 h12 f
    rintro Q hQ z f t ⟨i, rfl, hi, hst', hn, h2, h9, h10, h11, h13⟩
    have hyt := hyb.keeps hst'
    by_cases hlt : i < K.length
    rotate_left
    · obtain rfl : i = K.length := by omega
      have d1 : ¬ ((K.length : Nat) : Int) < ((K.length : Nat) : Int) := by omega
      simp (config := { maxSteps := 1000000, implicitDefEqProofs := false }) (disch := omega) only [allW, allR, oneOf, evalAll, partsA, optA, Nat.reduceLT, Nat.reduceLeDiff, Nat.reduceEqDiff, Nat.reduceAdd, ↓reduceIte, hn, h2, h9, h10, h11, h13, hyt.lenA Try.underlying27, eq_false d1]
      exact hQ _ _ _ (.inr ⟨rfl, by simp only [get_put, n_put, ↓reduceIte, Nat.reduceEqDiff, hn]⟩)
    have d1 : (i : Int) < (K.length : Int) := by omega
    have hix := hyt.indexAddr (P := Try.prog) (k := .i64) (x := (i : Int)) Try.underlying27 szStr (by omega) (by omega)
    rw [Int.toNat_natCast] at hix
    have hll := hyt.load1 (P := Try.prog) agStr hlt
    rw [strs_get hlt] at hll
    have hkk := hkl _ (List.getElem_mem hlt)
    by_cases c4 : (300 : Int) < (K[i]).length
    · simp (config := { maxSteps := 1000000, implicitDefEqProofs := false }) (disch := omega) only [allW, allR, oneOf, evalAll, partsA, optA, Nat.reduceLT, Nat.reduceLeDiff, Nat.reduceEqDiff, Nat.reduceAdd, ↓reduceIte, hn, h2, h9, h10, h11, h13, hyt.lenA Try.underlying27, eq_true d1, hix, hll, str_len Try.underlying9, eq_true c4]
      exact hQ _ _ _ (.inl ⟨rfl, by simp only [get_put, n_put, ↓reduceIte, Nat.reduceEqDiff, hn], by simp only [get_put, n_put, ↓reduceIte, Nat.reduceEqDiff]⟩)
    simp (config := { maxSteps := 1000000, implicitDefEqProofs := false }) (disch := omega) only [allW, allR, oneOf, evalAll, partsA, optA, Nat.reduceLT, Nat.reduceLeDiff, Nat.reduceEqDiff, Nat.reduceAdd, ↓reduceIte, hn, h2, h9, h10, h11, h13, hyt.lenA Try.underlying27, eq_true d1, hix, hll, str_len Try.underlying9, eq_false c4]
    obtain ⟨A, hA⟩ : ∃ A : Nat → Bool, A = fun j => decide (j < t.next) := ⟨_, rfl⟩
    have hAl : ∀ j, A j = true → j < t.next := by
      intro j h
      rw [hA] at h
      exact of_decide_eq_true h
    have hAo : ∀ j, j < t.next → A j = true := fun j h => by rw [hA]; exact decide_eq_true h
    refine LB.Drawn.looseK A hAl 4 0 (by kernel_rfl) (by kernel_rfl) ?_
    have hsp := Stay.spare t 0
    have hnT : (spare t 0).next = t.next + 0 := spare_next _ _
    have nt := hst'.next
    have l9 : ∀ k, LA.lowV A (some (.pointer (some ⟨t3.next, k, some 6⟩))) = true := fun k => LA.lowV_ptr (A := A) (i := t3.next) (hAo _ (by omega))
    have l10 : ∀ k, LA.lowV A (some (.pointer (some ⟨t3.next + 1, k, some 6⟩))) = true := fun k => LA.lowV_ptr (A := A) (i := t3.next + 1) (hAo _ (by omega))
    have l11 : ∀ k, LA.lowV A (some (.pointer (some ⟨a4.next, k, some 6⟩))) = true := fun k => LA.lowV_ptr (A := A) (i := a4.next) (hAo _ (by omega))
    have hB : ∀ t', Stay t.next t t' → Stay b4.next b4 t' := fun t' h => hst'.trans (h.weaken nt)
    have hlk : ∀ t', Stay t.next t t' → loadA Try.prog t' 9 (elemPtr 1 y i) = some (.string ⟨(K[i]).toArray⟩) := fun t' h => by
      have := (hyt.keeps h).load1 (P := Try.prog) agStr hlt
      rwa [strs_get hlt] at this
    have wB : ∀ b, valEq (.bool b) (.bool b) = true := fun b => by cases b <;> rfl
    have lE := LA.lowV_elemOld hyt hAo hlt
    have gs : ∀ q : O, Small q → Small (getO q K[i]) := fun q hq => by
      unfold getO
      split
      · cases q with
        | mk k n b L d =>
          cases hq with
          | mk hb hL hd hK hLs hD =>
            show Small (findE d K[i])
            unfold findE
            split
            · rename_i e he; exact hD _ (List.mem_of_find?_eq_some he)
            · exact Small.none
      · exact Small.none
    simp (config := { maxSteps := 1000000, implicitDefEqProofs := false }) (disch := omega) only [allW, allR, allL, allB, Nat.sub_self, Nat.add_one_sub_one, Nat.reduceSub, oneOf, evalAll, partsA, optA, Nat.reduceLT, Nat.reduceLeDiff, Nat.reduceEqDiff, Nat.reduceAdd, ↓reduceIte, hn, h2, h9, h10, h11, h13, l9, l10, l11, lE, hyt.self, hix, hlk _ hsp, y9 _ (hB _ hsp), ox.self, valEq_string, valEq_elemPtr]
    refine (get_any rfl rfl rfl rfl rfl _ (spare t 0) cx _ (gx _ (hB _ hsp)) sx K[i]).mono ?_
    rintro _ u1 ⟨d1', rfl, p1, j1⟩
    have j01 := hsp.trans (j1.weaken hsp.next)
    refine ⟨fun _ => LA.Stay.toA hAl (j1.weaken (by omega)), ?_⟩
    simp (config := { maxSteps := 1000000, implicitDefEqProofs := false }) (disch := omega) only [allW, allR, allL, allB, Nat.sub_self, Nat.add_one_sub_one, Nat.reduceSub, oneOf, evalAll, partsA, optA, Nat.reduceLT, Nat.reduceLeDiff, Nat.reduceEqDiff, Nat.reduceAdd, ↓reduceIte, hn, h2, h9, h10, h11, h13, l9, l10, l11, lE, hyt.self, hix, hlk _ j01, y10 _ (hB _ j01), oy.self, p1.self, valEq_string, valEq_elemPtr]
    refine (rget_any rfl rfl rfl rfl _ u1 cy _ (gy _ (hB _ j01)) sx K[i]).mono ?_
    rintro _ u2 ⟨d2', rfl, p2, j2⟩
    have j02 := j01.trans (j2.weaken j01.next)
    refine ⟨fun _ => LA.Stay.toA hAl (j2.weaken (by have := j01.next; omega)), ?_⟩
    try simp (config := { maxSteps := 1000000, implicitDefEqProofs := false }) (disch := omega) only [allW, allR, allL, allB, Nat.sub_self, Nat.add_one_sub_one, Nat.reduceSub, oneOf, evalAll, partsA, optA, Nat.reduceLT, Nat.reduceLeDiff, Nat.reduceEqDiff, Nat.reduceAdd, ↓reduceIte, hn, h2, h9, h10, h11, h13, l9, l10, l11, p1.self, p2.self]
    refine (rsame_any rfl rfl _ _ _ (Nat.le_refl _) _ _ _ _ _ (p1.keeps j2) p2 (gs _ sx) (gs _ sx)).mono ?_
    rintro _ u3 ⟨⟨v4, rfl, e4⟩, j3⟩
    obtain rfl : v4 = true := e4.2 (SameO.self _)
    have j03 := j02.trans (j3.weaken j02.next)
    refine ⟨fun _ => LA.Stay.toA hAl (j3.weaken (by have := j02.next; omega)), ?_⟩
    simp (config := { maxSteps := 1000000, implicitDefEqProofs := false }) (disch := omega) only [allW, allR, allL, allB, Nat.sub_self, Nat.add_one_sub_one, Nat.reduceSub, oneOf, evalAll, partsA, optA, Nat.reduceLT, Nat.reduceLeDiff, Nat.reduceEqDiff, Nat.reduceAdd, ↓reduceIte, hn, h2, h9, h10, h11, h13, l9, l10, l11, lE, hyt.self, hix, hlk _ j03, y11 _ (hB _ j03), ou.self, wB, Bool.not_true, valEq_string, valEq_elemPtr]
    refine (get_any rfl rfl rfl rfl rfl _ u3 cu _ (gu _ (hB _ j03)) su K[i]).mono ?_
    rintro _ u4 ⟨d4', rfl, p4, j4⟩
    have j04 := j03.trans (j4.weaken j03.next)
    refine ⟨fun _ => LA.Stay.toA hAl (j4.weaken (by have := j03.next; omega)), ?_⟩
    rw [getO_dropped (List.getElem_mem hlt)] at p4
    obtain ⟨bw, lw', dw, lc', dc', rfl, -⟩ := p4.parts
    have hfd : fieldA Try.prog 26 (.agg #[.int .i64 0, .int .i64 0, bw, lw', dw]) 0 = some (.int .i64 0) := by
      unfold fieldA; rw [Try.underlying26]; simp [szInt, szI64, partA, agInt]; rfl
    simp (config := { maxSteps := 1000000, implicitDefEqProofs := false }) (disch := omega) only [allW, allR, allL, allB, Nat.sub_self, Nat.add_one_sub_one, Nat.reduceSub, oneOf, evalAll, partsA, optA, Nat.reduceLT, Nat.reduceLeDiff, Nat.reduceEqDiff, Nat.reduceAdd, ↓reduceIte, hn, h2, h9, h10, h11, h13, p4.self, hfd, wB, valEq_int, wrapI]
    exact wround_next (K.length - (i + 1)) (by omega) ⟨i + 1, rfl, by omega, hB _ j04, by simp only [get_put, n_put, ↓reduceIte, Nat.reduceEqDiff, hn], by simp only [get_put, n_put, ↓reduceIte, Nat.reduceEqDiff, h2], by simp only [get_put, n_put, ↓reduceIte, Nat.reduceEqDiff, h9], by simp only [get_put, n_put, ↓reduceIte, Nat.reduceEqDiff, h10], by simp only [get_put, n_put, ↓reduceIte, Nat.reduceEqDiff, h11], by simp only [get_put, n_put, ↓reduceIte, Nat.reduceEqDiff]; rfl⟩
  clear hn h1 h2 h3 h8 h9 h10 h11 h12 f
  rintro z f t (⟨rfl, hn, h6⟩ | ⟨rfl, hn⟩)
  · simp (config := { maxSteps := 1000000, implicitDefEqProofs := false }) (disch := omega) only [allW, allR, wfn_ret, wfn_normal, oneOf, evalAll, partsA, optA, Nat.reduceLT, Nat.reduceLeDiff, Nat.reduceEqDiff, Nat.reduceAdd, ↓reduceIte, hn, h6, Try.results3]
    rw [hQQ]
  · simp (config := { maxSteps := 1000000, implicitDefEqProofs := false }) (disch := omega) only [allW, allR, wfn_ret, wfn_normal, oneOf, evalAll, partsA, optA, Nat.reduceLT, Nat.reduceLeDiff, Nat.reduceEqDiff, Nat.reduceAdd, ↓reduceIte, hn, Try.results3]
    rw [hQQ]

theorem own : ownKnob Try.prog.godebug = none := by kernel_rfl
theorem sound : progOk Try.prog libN = true := by kernel_rfl
theorem laid : laidOutB Try.prog = true := by kernel_rfl
theorem read : ∀ t ∈ Try.f3.params.toList, Try.prog.readableRec t = true ∧ t < Try.prog.types.size := by
  have : (Try.f3.params.toList.all fun t => Try.prog.readableRec t && decide (t < Try.prog.types.size)) = true := by kernel_rfl
  intro t ht
  simpa using List.all_eq_true.mp this t ht
set_option maxRecDepth 100000 in
theorem lifted (os : Os) (started : os.Started) (H : Type) (enc : TypeId × Value → H) :
    ReturnsInHanded {} Try.checked os 3 .any (Rows.cosEditsSpec.pre6 enc Try.prog Try.f3 Rows.cosEditsRow.domain false) (Rows.cosEditsSpec.post enc Try.prog Try.f3 false true false false) := by
  refine returnsInHanded_of_change_sized (C := Try.checked) own started (by kernel_rfl) Try.func3
    (ChangeSpec.witness6 (enc := enc) (C := Try.checked) false ⟨#[], #[.agg #[.int .i64 0, .int .i64 0, .slice none 0 0, .slice none 0 0, .slice none 0 0], .slice none 0 0, .slice none 0 0], []⟩ 8 (by kernel_rfl) (by kernel_rfl) (by kernel_rfl) (by kernel_rfl)) ?_
  intro W base args ds gs before hval hW hcnd hsz _
  obtain ⟨p, q, hA, _, _, _, _⟩ := id hW
  have hA : DataW.TrodAll enc Try.prog W 0 (fun _ => true) true Try.f3.params.toList args.toList ds p := hA
  rw [Try.params3] at hA
  obtain ⟨v0, v1, v2, d0, d1, d2, p0, p1, p2, rfl, rfl, rfl, h0, h1, h2⟩ := trodAll_three hA
  have hv0 : Value.okWide Try.prog W .any base 26 v0 := hval 0 _ _ (by rw [Try.params3]; rfl) rfl
  have hw0 : Wt Try.prog 26 d0 := fun n hn => by simpa using List.all_eq_true.1 hsz n (DataW.weights_mem_each (j := 0) (t := 26) (d := d0) (by rw [Try.params3]; rfl) rfl n hn)
  have hv1 : Value.okWide Try.prog W .any base 24 v1 := hval 1 _ _ (by rw [Try.params3]; rfl) rfl
  have hw1 : Wt Try.prog 24 d1 := fun n hn => by simpa using List.all_eq_true.1 hsz n (DataW.weights_mem_each (j := 1) (t := 24) (d := d1) (by rw [Try.params3]; rfl) rfl n hn)
  have hv2 : Value.okWide Try.prog W .any base 27 v2 := hval 2 _ _ (by rw [Try.params3]; rfl) rfl
  have hw2 : Wt Try.prog 27 d2 := fun n hn => by simpa using List.all_eq_true.1 hsz n (DataW.weights_mem_each (j := 2) (t := 27) (d := d2) (by rw [Try.params3]; rfl) rfl n hn)
  obtain ⟨S0, c0, o0, hg0, hr0, ho0, hf0⟩ := arg_obj (Begun.start W) hv0 h0 hw0
  obtain ⟨S1, x1, l1, D1, hg1, hr1, hs1, hq1, hp1, hk1⟩ := arg_ents hg0.begun h1 hw1 hv1
  obtain ⟨S2, x2, K2, hg2, hr2, hs2, hp2, hk2⟩ := arg_strs hg1.begun h2 hw2 hv2
  have hcalls := Runs.callsL libFr (libOk _) sound rfl hg2.begun (law S2.s c0 o0 ((ho0.keeps hg1.stay).keeps hg2.stay) hf0 x1 D1 l1 (hs1.keeps hg2.stay) (hq1.keeps rowedE hg2.stay) hp1 hk1 x2 K2 hs2 hp2 hk2) (args' := #[v0, v1, v2]) (VRL.cons ((hr0.mono hg1.ext).mono hg2.ext) (VRL.cons (hr1.mono hg2.ext) (VRL.cons hr2 VRL.nil)))
  refine hcalls.mono fun e W' ⟨he, hb⟩ => ?_
  subst he
  exact law_post laid read rfl Try.underlying4 rfl (fun L hL => by match L, hL with | [a0, a1, a2], _ => rfl) hW hb

theorem over : Rows.cosEditsRow.holds Try.pinned (OpenSpec.ofChange Rows.cosEditsSpec) :=
  OpenClaim.holds_of_wide 3 Try.f3 rfl rfl rfl rfl rfl rfl rfl ⟨rfl, rfl, rfl, rfl, rfl⟩ rfl rfl rfl rfl rfl (by kernel_rfl) Try.func3 (by kernel_rfl)
    (of_decide_eq_true (by kernel_rfl)) (by unfold Func.isWrapper; first | (rw [if_pos (by decide +kernel)]; kernel_rfl) | (rw [if_neg (by decide +kernel)]; exact ⟨rfl, rfl⟩))
    (fun os started H enc _ => lifted os started H enc)

/-- THE STATEMENT. -/
theorem proved : Rows.CosEditsSaid := over
#print axioms proved
end Go.Proofs.Ytdhdhbkikhedlaa.cosEdits
