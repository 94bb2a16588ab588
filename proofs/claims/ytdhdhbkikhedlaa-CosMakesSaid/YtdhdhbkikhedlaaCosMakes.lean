/-
  The statement CosMakes: entries in whatever order, some twice, some of nothing: the dictionary and the stream that they make: the law returns true.
  Conditions: none.
-/
import Derived.Test.YtdhdhbkikhedlaaRows
import Derived.Test.YtdhdhbkikhedlaaCosU
import Derived.Test.YtdhdhbkikhedlaaObjL
import Derived.Test.YtdhdhbkikhedlaaCosR
import Derived.Test.YtdhdhbkikhedlaaCosM
import Derived.Test.YtdhdhbkikhedlaaCosS
set_option linter.unusedSimpArgs false
set_option linter.unusedVariables false
namespace Go.Cl
theorem small_put {k n : Int} {b : List UInt8} {l d : List (List UInt8 × O)} {L : List O} (hb : b.length ≤ 100000) (hL : L.length ≤ 100000) (hLs : ∀ x ∈ L, Small x) (hd : d.length + l.length ≤ 100000) (h1 : ∀ e ∈ d, e.1.length ≤ 100000 ∧ Small e.2) (h2 : ∀ e ∈ l, e.1.length ≤ 100000 ∧ Small e.2) : Small (.mk k n b L (putAll d l)) := by
  have h3 := putAll_len d l
  have h4 : ∀ e ∈ putAll d l, e.1.length ≤ 100000 ∧ Small e.2 := fun e he => by
    rcases putAll_mem l d he with h | h
    · exact h1 e h
    · exact h2 e h
  exact .mk hb hL (by omega) (fun e he => (h4 e he).1) hLs (fun e he => (h4 e he).2)
end Go.Cl
namespace Go.Proofs.Ytdhdhbkikhedlaa.cosMakes
open Go.ChangeShapes Go.WideShapes Go.ChangeAt Go.RowKit Go.Cl Go.Lib
set_option maxRecDepth 100000 in
set_option maxHeartbeats 8000000 in
theorem law (s : ASt) (x : Value) (D : List (List UInt8 × O)) (lx : List Value) (hx : Sees s 6 x D.length lx) (hD : ORows EntIs 6 (fun _ => True) s D lx) (hp : ∀ e ∈ D, FitE e) (hk : D.length ≤ 140737488351232) (y : Value) (b : List UInt8) (hy : Sees s 1 y b.length (ofBytes b)) (hkb : b.length ≤ 140737488351232) :
    Runs Try.prog libN 4 [x, y] s fun v _ => v = .bool true := by
  obtain ⟨QQ, hQQ⟩ : ∃ QQ : Value → ASt → Prop, QQ = fun v _ => v = .bool true := ⟨_, rfl⟩
  rw [← hQQ]
  refine Runs.enter 100 Try.func4 rfl rfl rfl rfl ?_
  intro f hn hf
  have h0 : f.get 0 = x := hf 0
  have h1 : f.get 1 = y := hf 1
  clear hf
  simp (config := { maxSteps := 1000000, implicitDefEqProofs := false }) (disch := omega) only [allW, allR, oneOf, evalAll, partsA, optA, Nat.reduceLT, Nat.reduceLeDiff, Nat.reduceEqDiff, Nat.reduceAdd, ↓reduceIte, hn, h0, h1]
  refine (awake_any rfl libC s).mono ?_
  rintro _ s1 ⟨rfl, k1⟩
  have hx1 := hx.keeps k1
  have hy1 := hy.keeps k1
  have hD0 := hD.below rowedE
  obtain ⟨F0, hF0⟩ : ∃ F0 : Nat → Prop, F0 = fun j => True ∧ j < s.next := ⟨_, rfl⟩
  rw [← hF0] at hD0
  have hD1 := hD0.keeps rowedE k1
  by_cases c1 : (40 : Int) < D.length
  · simp (config := { maxSteps := 1000000, implicitDefEqProofs := false }) (disch := omega) only [allW, allR, wfn_ret, wfn_normal, oneOf, evalAll, partsA, optA, Nat.reduceLT, Nat.reduceLeDiff, Nat.reduceEqDiff, Nat.reduceAdd, ↓reduceIte, hn, h0, h1, hx1.lenA Try.underlying24, eq_true c1, Try.results4]
    rw [hQQ]
  by_cases c2 : (200 : Int) < b.length
  · simp (config := { maxSteps := 1000000, implicitDefEqProofs := false }) (disch := omega) only [allW, allR, wfn_ret, wfn_normal, oneOf, evalAll, partsA, optA, Nat.reduceLT, Nat.reduceLeDiff, Nat.reduceEqDiff, Nat.reduceAdd, ↓reduceIte, hn, h0, h1, hx1.lenA Try.underlying24, hy1.lenA Try.underlying22, eq_false c1, eq_true c2, Try.results4]
    rw [hQQ]
  simp (config := { maxSteps := 1000000, implicitDefEqProofs := false }) (disch := omega) only [allW, allR, oneOf, evalAll, partsA, optA, Nat.reduceLT, Nat.reduceLeDiff, Nat.reduceEqDiff, Nat.reduceAdd, ↓reduceIte, hn, h0, h1, hx1.lenA Try.underlying24, hy1.lenA Try.underlying22, eq_false c1, eq_false c2]
  refine Comes.loopOut (fun z f t => ∃ i : Nat, z = D.length - i ∧ i ≤ D.length ∧ (∀ j (h : j < D.length), j < i → (D[j].1).length ≤ 300 ∧ Small D[j].2) ∧ Stay s1.next s1 t ∧ f.n = 100 ∧ f.get 0 = x ∧ f.get 1 = y ∧ f.get 5 = .int .i64 (i : Nat))
    (fun z f t => (z = .ret ∧ f.n = 100 ∧ f.get 4 = .bool true) ∨ (z = .exit 0 ∧ (∀ j (h : j < D.length), (D[j].1).length ≤ 300 ∧ Small D[j].2) ∧ Stay s1.next s1 t ∧ f.n = 100 ∧ f.get 0 = x ∧ f.get 1 = y))
    ⟨0, rfl, by omega, fun j h h' => by omega, Stay.refl _ _, by simp only [get_put, n_put, ↓reduceIte, Nat.reduceEqDiff, hn], by simp only [get_put, n_put, ↓reduceIte, Nat.reduceEqDiff, h0], by simp only [get_put, n_put, ↓reduceIte, Nat.reduceEqDiff, h1], by simp only [get_put, n_put, ↓reduceIte, Nat.reduceEqDiff]; rfl⟩ ?_ ?_
  · clear hn h0 h1 f
    rintro Q hQ z f t ⟨i, rfl, hi, hP, hst, hn, h0, h1, h5⟩
    have hxt := hx1.keeps hst
    by_cases hlt : i < D.length
    rotate_left
    · obtain rfl : i = D.length := by omega
      have d1 : ¬ ((D.length : Nat) : Int) < ((D.length : Nat) : Int) := by omega
      simp (config := { maxSteps := 1000000, implicitDefEqProofs := false }) (disch := omega) only [allW, allR, oneOf, evalAll, partsA, optA, Nat.reduceLT, Nat.reduceLeDiff, Nat.reduceEqDiff, Nat.reduceAdd, ↓reduceIte, hn, h0, h1, h5, hxt.lenA Try.underlying24, eq_false d1]
      exact hQ _ _ _ (.inr ⟨rfl, fun j h => hP j h h, hst, by simp only [get_put, n_put, ↓reduceIte, Nat.reduceEqDiff, hn], by simp only [get_put, n_put, ↓reduceIte, Nat.reduceEqDiff, h0], by simp only [get_put, n_put, ↓reduceIte, Nat.reduceEqDiff, h1]⟩)
    have d1 : (i : Int) < (D.length : Int) := by omega
    have hix := hxt.indexAddr (P := Try.prog) (k := .i64) (x := (i : Int)) Try.underlying24 szE (by omega) (by omega)
    rw [Int.toNat_natCast] at hix
    obtain ⟨q0, q1⟩ := efE hxt hlt
    obtain ⟨r, hr1, hr2, hr3⟩ := hD1.row i hlt
    obtain ⟨hk6, hv6⟩ := chunk6 hr1
    have hlk := hxt.loadField (P := Try.prog) agStr hlt (j := 0) (by omega)
    rw [Nat.add_zero, hk6] at hlk
    have hlv := hxt.loadPart (P := Try.prog) agO szO hlt (j := 1) (by omega)
    rw [hv6] at hlv
    have hfi := hp _ (List.getElem_mem hlt)
    have hfk := hfi.1
    by_cases c3 : (300 : Int) < (D[i].1).length
    · simp (config := { maxSteps := 1000000, implicitDefEqProofs := false }) (disch := omega) only [allW, allR, oneOf, evalAll, partsA, optA, Nat.reduceLT, Nat.reduceLeDiff, Nat.reduceEqDiff, Nat.reduceAdd, ↓reduceIte, hn, h0, h1, h5, hxt.lenA Try.underlying24, eq_true d1, hix, q0, q1, hlk, str_len Try.underlying9, eq_true c3]
      exact hQ _ _ _ (.inl ⟨rfl, by simp only [get_put, n_put, ↓reduceIte, Nat.reduceEqDiff, hn], by simp only [get_put, n_put, ↓reduceIte, Nat.reduceEqDiff]⟩)
    simp (config := { maxSteps := 1000000, implicitDefEqProofs := false }) (disch := omega) only [allW, allR, oneOf, evalAll, partsA, optA, Nat.reduceLT, Nat.reduceLeDiff, Nat.reduceEqDiff, Nat.reduceAdd, ↓reduceIte, hn, h0, h1, h5, hxt.lenA Try.underlying24, eq_true d1, hix, q0, q1, hlk, hlv, str_len Try.underlying9, eq_false c3]
    refine (room_any rfl 40 (by decide) _ D[i].2 (Nat.le_refl _) _ t _ 6 (hr2.keeps hst) hfi.2 (by decide) (by decide)).mono ?_
    rintro _ t2 ⟨⟨u, rfl, hu⟩, k2⟩
    have hst2 := hst.trans (k2.weaken hst.next)
    have hxt2 := hxt.keeps k2
    have hlv2 := hxt2.loadPart (P := Try.prog) agO szO hlt (j := 1) (by omega)
    rw [hv6] at hlv2
    cases u with
    | false =>
      simp (config := { maxSteps := 1000000, implicitDefEqProofs := false }) (disch := omega) only [allW, allR, oneOf, evalAll, partsA, optA, Nat.reduceLT, Nat.reduceLeDiff, Nat.reduceEqDiff, Nat.reduceAdd, ↓reduceIte, hn, h0, h1, h5, Bool.not_false]
      exact hQ _ _ _ (.inl ⟨rfl, by simp only [get_put, n_put, ↓reduceIte, Nat.reduceEqDiff, hn], by simp only [get_put, n_put, ↓reduceIte, Nat.reduceEqDiff]⟩)
    | true =>
    have hu := (hu rfl).1
    simp (config := { maxSteps := 1000000, implicitDefEqProofs := false }) (disch := omega) only [allW, allR, oneOf, evalAll, partsA, optA, Nat.reduceLT, Nat.reduceLeDiff, Nat.reduceEqDiff, Nat.reduceAdd, ↓reduceIte, hn, h0, h1, h5, Bool.not_true, hix, q0, q1, hlv2]
    refine (rmayTop_any rfl rfl rfl rfl rfl rfl D[i].2 _ t2 _ (hr2.keeps hst2) hfi.2).mono ?_
    rintro _ t3 ⟨⟨u, rfl, _⟩, k3⟩
    have hst3 := hst2.trans (k3.weaken hst2.next)
    cases u with
    | false =>
      simp (config := { maxSteps := 1000000, implicitDefEqProofs := false }) (disch := omega) only [allW, allR, oneOf, evalAll, partsA, optA, Nat.reduceLT, Nat.reduceLeDiff, Nat.reduceEqDiff, Nat.reduceAdd, ↓reduceIte, hn, h0, h1, h5, Bool.not_false]
      exact hQ _ _ _ (.inl ⟨rfl, by simp only [get_put, n_put, ↓reduceIte, Nat.reduceEqDiff, hn], by simp only [get_put, n_put, ↓reduceIte, Nat.reduceEqDiff]⟩)
    | true =>
    simp (config := { maxSteps := 1000000, implicitDefEqProofs := false }) (disch := omega) only [allW, allR, oneOf, evalAll, partsA, optA, Nat.reduceLT, Nat.reduceLeDiff, Nat.reduceEqDiff, Nat.reduceAdd, ↓reduceIte, hn, h0, h1, h5, Bool.not_true, wrapI]
    refine wround_next (D.length - (i + 1)) (by omega) ⟨i + 1, rfl, by omega, fun j h hj => ?_, hst3, by simp only [get_put, n_put, ↓reduceIte, Nat.reduceEqDiff, hn], by simp only [get_put, n_put, ↓reduceIte, Nat.reduceEqDiff, h0], by simp only [get_put, n_put, ↓reduceIte, Nat.reduceEqDiff, h1], by simp only [get_put, n_put, ↓reduceIte, Nat.reduceEqDiff]; rfl⟩
    by_cases hji : j = i
    · subst hji; exact ⟨by omega, hu⟩
    · exact hP j h (by omega)
  clear hn h0 h1 f
  rintro z f t (⟨rfl, hn, h4⟩ | ⟨rfl, hall, hst, hn, h0, h1⟩)
  · simp (config := { maxSteps := 1000000, implicitDefEqProofs := false }) (disch := omega) only [allW, allR, wfn_ret, wfn_normal, oneOf, evalAll, partsA, optA, Nat.reduceLT, Nat.reduceLeDiff, Nat.reduceEqDiff, Nat.reduceAdd, ↓reduceIte, hn, h4, Try.results4]
    rw [hQQ]
  have hall' : ∀ e ∈ D, e.1.length ≤ 100000 ∧ Small e.2 := fun e he => by
    obtain ⟨j, hj, rfl⟩ := List.mem_iff_getElem.1 he
    have := hall j hj
    exact ⟨by omega, this.2⟩
  have hst0 : Stay s.next s t := k1.trans (hst.weaken k1.next)
  have hn0 := hst0.next
  simp (config := { maxSteps := 1000000, implicitDefEqProofs := false }) (disch := omega) only [allW, allR, oneOf, evalAll, partsA, optA, Nat.reduceLT, Nat.reduceLeDiff, Nat.reduceEqDiff, Nat.reduceAdd, ↓reduceIte, hn, h0, h1]
  refine Comes.loopOut (fun z f u => ∃ (i : Nat) (w : Value) (LC : List Value), z = D.length - i ∧ i ≤ D.length ∧ Own u 5 w i LC ∧ ORows OIs 5 F0 u ((D.map (·.2)).take i) LC ∧ Fresh t.next w ∧ Stay t.next t u ∧ f.n = 100 ∧ f.get 0 = x ∧ f.get 1 = y ∧ f.get 6 = w ∧ f.get 7 = .int .i64 (i : Nat))
    (fun z f u => z = .exit 2 ∧ ∃ (w : Value) (LC : List Value), Own u 5 w D.length LC ∧ ORows OIs 5 F0 u (D.map (·.2)) LC ∧ Stay t.next t u ∧ f.n = 100 ∧ f.get 0 = x ∧ f.get 1 = y ∧ f.get 6 = w)
    ⟨0, .slice none 0 0, [], rfl, by omega, .nil, by rw [List.take_zero]; exact ORows.nil, Fresh.nil _, Stay.refl _ _, by simp only [get_put, n_put, ↓reduceIte, Nat.reduceEqDiff, hn], by simp only [get_put, n_put, ↓reduceIte, Nat.reduceEqDiff, h0], by simp only [get_put, n_put, ↓reduceIte, Nat.reduceEqDiff, h1], by simp only [get_put, n_put, ↓reduceIte, Nat.reduceEqDiff], by simp only [get_put, n_put, ↓reduceIte, Nat.reduceEqDiff]; rfl⟩ ?_ ?_
  · clear hn h0 h1 f
    rintro Q hQ z f u ⟨i, w, LC, rfl, hi, hw, hwr, hwF, hsu, hn, h0, h1, h6, h7⟩
    have hsu0 := hst0.trans (hsu.weaken hn0)
    have hxt := hx.keeps hsu0
    by_cases hlt : i < D.length
    rotate_left
    · obtain rfl : i = D.length := by omega
      rw [List.take_of_length_le (by simp)] at hwr
      have d1 : ¬ ((D.length : Nat) : Int) < ((D.length : Nat) : Int) := by omega
      simp (config := { maxSteps := 1000000, implicitDefEqProofs := false }) (disch := omega) only [allW, allR, oneOf, evalAll, partsA, optA, Nat.reduceLT, Nat.reduceLeDiff, Nat.reduceEqDiff, Nat.reduceAdd, ↓reduceIte, hn, h0, h1, h6, h7, hxt.lenA Try.underlying24, eq_false d1]
      exact hQ _ _ _ ⟨rfl, w, LC, hw, hwr, hsu, by simp only [get_put, n_put, ↓reduceIte, Nat.reduceEqDiff, hn], by simp only [get_put, n_put, ↓reduceIte, Nat.reduceEqDiff, h0], by simp only [get_put, n_put, ↓reduceIte, Nat.reduceEqDiff, h1], by simp only [get_put, n_put, ↓reduceIte, Nat.reduceEqDiff, h6]⟩
    have d1 : (i : Int) < (D.length : Int) := by omega
    have hix := hxt.indexAddr (P := Try.prog) (k := .i64) (x := (i : Int)) Try.underlying24 szE (by omega) (by omega)
    rw [Int.toNat_natCast] at hix
    obtain ⟨q0, q1⟩ := efE hxt hlt
    obtain ⟨r, hr1, hr2, hr3⟩ := hD0.row i hlt
    obtain ⟨hk6, hv6⟩ := chunk6 hr1
    have hlv := hxt.loadPart (P := Try.prog) agO szO hlt (j := 1) (by omega)
    rw [hv6] at hlv
    have hrl := hr2.len
    simp (config := { maxSteps := 1000000, implicitDefEqProofs := false }) (disch := omega) only [allW, allR, oneOf, evalAll, partsA, optA, Nat.reduceLT, Nat.reduceLeDiff, Nat.reduceEqDiff, Nat.reduceAdd, ↓reduceIte, hn, h0, h1, h6, h7, hxt.lenA Try.underlying24, eq_true d1, hix, q1, hlv, buildAgg1 (cs := r.toArray) Try.underlying23 szO zO plO rfl hrl (by decide)]
    refine wstep_newSlice (by rw [hrl]) ?_
    intro bb t1 hb1 hbF1 hst1'
    simp (config := { maxSteps := 1000000, implicitDefEqProofs := false }) (disch := omega) only [allW, allR, oneOf, evalAll, partsA, optA, Nat.reduceLT, Nat.reduceLeDiff, Nat.reduceEqDiff, Nat.reduceAdd, ↓reduceIte, hn, h0, h1, h6, h7]
    refine wstep_append Try.underlying23 Try.underlying23 (.inl ⟨_, rfl⟩) szO byO zO rfl (hw.keeps hst1') hb1.sees.src hrl (by decide) hr2.ok (by omega) (by omega) hwF (by have := hsu.next; have := hst1'.next; omega) ?_
    intro w' t2 hw' hwF' hst2' htu2 _
    simp (config := { maxSteps := 1000000, implicitDefEqProofs := false }) (disch := omega) only [allW, allR, oneOf, evalAll, partsA, optA, Nat.reduceLT, Nat.reduceLeDiff, Nat.reduceEqDiff, Nat.reduceAdd, ↓reduceIte, hn, h0, h1, h6, h7, wrapI]
    refine wround_next (D.length - (i + 1)) (by omega) ⟨i + 1, w', LC ++ r, rfl, by omega, hw', ?_, hwF', (hsu.trans (hst1'.weaken hsu.next)).trans hst2', by simp only [get_put, n_put, ↓reduceIte, Nat.reduceEqDiff, hn], by simp only [get_put, n_put, ↓reduceIte, Nat.reduceEqDiff, h0], by simp only [get_put, n_put, ↓reduceIte, Nat.reduceEqDiff, h1], by simp only [get_put, n_put, ↓reduceIte, Nat.reduceEqDiff], by simp only [get_put, n_put, ↓reduceIte, Nat.reduceEqDiff]; rfl⟩
    have e1 : (D.map (·.2)).take (i + 1) = (D.map (·.2)).take i ++ [D[i].2] := by rw [List.take_add_one, List.getElem?_map, List.getElem?_eq_getElem hlt]; rfl
    rw [e1]
    have hs2 : Stay s.next s t2 := (hsu0.trans (hst1'.weaken hsu0.next)).trans (hst2'.weaken hn0)
    exact ((hwr.keeps rowedO hst1').turns rowedO htu2 (fun j hj e => by have := hwF _ e; rw [hF0] at hj; have := hj.2; omega)).snoc hrl (hr2.keeps hs2)
  clear hn h0 h1 f
  rintro z f u ⟨rfl, w, LC, hw, hwr, hsu, hn, h0, h1, h6⟩
  have hsu0 := hst0.trans (hsu.weaken hn0)
  have hxu := hx.keeps hsu0
  have hyu := hy.keeps hsu0
  have hDu := hD0.keeps rowedE hsu0
  have hml : (D.map (·.2)).length = D.length := List.length_map ..
  have hms : ∀ o ∈ D.map (·.2), Small o := fun o ho => by
    obtain ⟨e, he, rfl⟩ := List.mem_map.1 ho
    exact (hall' e he).2
  simp (config := { maxSteps := 1000000, implicitDefEqProofs := false }) (disch := omega) only [allW, allR, oneOf, evalAll, partsA, optA, Nat.reduceLT, Nat.reduceLeDiff, Nat.reduceEqDiff, Nat.reduceAdd, ↓reduceIte, hn, h0, h1, h6]
  obtain ⟨A, hA⟩ : ∃ A : Nat → Bool, A = fun j => decide (j < u.next) := ⟨_, rfl⟩
  have hAl : ∀ j, A j = true → j < u.next := by
    intro j h
    rw [hA] at h
    exact of_decide_eq_true h
  have hAo : ∀ j, j < u.next → A j = true := fun j h => by rw [hA]; exact decide_eq_true h
  refine LB.Drawn.looseK A hAl 15 0 (by kernel_rfl) (by kernel_rfl) ?_
  have q0 : Stay u.next u (spare u 0) := Stay.spare u 0
  have hnT : (spare u 0).next = u.next + 0 := spare_next _ _
  have wB : ∀ b, valEq (.bool b) (.bool b) = true := fun b => by cases b <;> rfl
  simp (config := { maxSteps := 1000000, implicitDefEqProofs := false }) (disch := omega) only [allW, allR, allL, allB, Nat.sub_self, Nat.add_one_sub_one, Nat.reduceSub, oneOf, evalAll, partsA, optA, Nat.reduceLT, Nat.reduceLeDiff, Nat.reduceEqDiff, Nat.reduceAdd, ↓reduceIte, hn, h0, h1, h6, hxu.self, hyu.self, hw.self, wB]
  have sD : Small (.mk 7 0 [] [] (putAll [] D)) := small_put (by simp) (by simp) (fun e h => by cases h) (by simp; omega) (fun e h => by cases h) hall'
  have sS : Small (.mk 8 0 b [] (putAll [] D)) := small_put (by omega) (by simp) (fun e h => by cases h) (by simp; omega) (fun e h => by cases h) hall'
  have sA : Small (.mk 6 0 [] (D.map (·.2)) []) := .mk (by simp) (by rw [hml]; omega) (by simp) (fun e h => by cases h) hms (fun e h => by cases h)
  have sT : Small (.mk 4 0 b [] []) := .mk (by omega) (by simp) (by simp) (fun e h => by cases h) (fun e h => by cases h) (fun e h => by cases h)
  have sN : Small (.mk 5 0 b [] []) := .mk (by omega) (by simp) (by simp) (fun e h => by cases h) (fun e h => by cases h) (fun e h => by cases h)
  have xk : ∀ t, Stay u.next u t → Sees t 6 x D.length lx := fun t h => hxu.keeps h
  have yk : ∀ t, Stay u.next u t → Sees t 1 y b.length (ofBytes b) := fun t h => hyu.keeps h
  have dk : ∀ t, Stay u.next u t → ORows EntIs 6 F0 t D lx := fun t h => hDu.keeps rowedE h
  have wk : ∀ t, Stay u.next u t → Sees t 5 w (D.map (·.2)).length LC := fun t h => by rw [hml]; exact (hw.keeps h).sees
  have rk : ∀ t, Stay u.next u t → ORows OIs 5 F0 t (D.map (·.2)) LC := fun t h => hwr.keeps rowedO h
  have hall2 : ∀ e ∈ D, Small e.2 := fun e he => (hall' e he).2
  refine (dict_any libC F0 (spare u 0) x D lx (xk _ q0) (dk _ q0) (by omega) hall2).mono ?_
  rintro _ t1 ⟨c1, rfl, o1, k1⟩
  have g1 := q0.trans (k1.weaken q0.next)
  refine ⟨fun _ => LA.Stay.toA hAl (k1.weaken (by have := q0.next; omega)), ?_⟩
  try simp (config := { maxSteps := 1000000, implicitDefEqProofs := false }) (disch := omega) only [allW, allR, allL, allB, Nat.sub_self, Nat.add_one_sub_one, Nat.reduceSub, oneOf, evalAll, partsA, optA, Nat.reduceLT, Nat.reduceLeDiff, Nat.reduceEqDiff, Nat.reduceAdd, ↓reduceIte, hn, h0, h1, h6, hxu.self, hyu.self, hw.self, wB, o1.self]
  refine (rdict_any libRf F0 t1 x D lx (xk _ g1) (dk _ g1) (by omega) hall2).mono ?_
  rintro _ t2 ⟨c2, rfl, o2, k2⟩
  have g2 := g1.trans (k2.weaken g1.next)
  refine ⟨fun _ => LA.Stay.toA hAl (k2.weaken (by have := g1.next; omega)), ?_⟩
  try simp (config := { maxSteps := 1000000, implicitDefEqProofs := false }) (disch := omega) only [allW, allR, allL, allB, Nat.sub_self, Nat.add_one_sub_one, Nat.reduceSub, oneOf, evalAll, partsA, optA, Nat.reduceLT, Nat.reduceLeDiff, Nat.reduceEqDiff, Nat.reduceAdd, ↓reduceIte, hn, h0, h1, h6, hxu.self, hyu.self, hw.self, wB, o1.self, o2.self]
  refine (rsame_any rfl rfl _ _ _ (Nat.le_refl _) _ _ _ _ _ (o1.keeps k2) o2 sD sD).mono ?_
  rintro _ t3 ⟨⟨v3, rfl, e3⟩, k3⟩
  obtain rfl : v3 = true := e3.2 (SameO.self _)
  have g3 := g2.trans (k3.weaken g2.next)
  refine ⟨fun _ => LA.Stay.toA hAl (k3.weaken (by have := g2.next; omega)), ?_⟩
  try simp (config := { maxSteps := 1000000, implicitDefEqProofs := false }) (disch := omega) only [allW, allR, allL, allB, Nat.sub_self, Nat.add_one_sub_one, Nat.reduceSub, oneOf, evalAll, partsA, optA, Nat.reduceLT, Nat.reduceLeDiff, Nat.reduceEqDiff, Nat.reduceAdd, ↓reduceIte, hn, h0, h1, h6, hxu.self, hyu.self, hw.self, wB, o1.self, o2.self]
  refine (stream_any libC F0 t3 y b (yk _ g3) (by omega) x D lx (xk _ g3) (dk _ g3) (by omega) hall2).mono ?_
  rintro _ t4 ⟨c4, rfl, o4, k4⟩
  have g4 := g3.trans (k4.weaken g3.next)
  refine ⟨fun _ => LA.Stay.toA hAl (k4.weaken (by have := g3.next; omega)), ?_⟩
  try simp (config := { maxSteps := 1000000, implicitDefEqProofs := false }) (disch := omega) only [allW, allR, allL, allB, Nat.sub_self, Nat.add_one_sub_one, Nat.reduceSub, oneOf, evalAll, partsA, optA, Nat.reduceLT, Nat.reduceLeDiff, Nat.reduceEqDiff, Nat.reduceAdd, ↓reduceIte, hn, h0, h1, h6, hxu.self, hyu.self, hw.self, wB, o4.self]
  refine (rstream_any libRf F0 t4 y b (yk _ g4) (by omega) x D lx (xk _ g4) (dk _ g4) (by omega) hall2).mono ?_
  rintro _ t5 ⟨c5, rfl, o5, k5⟩
  have g5 := g4.trans (k5.weaken g4.next)
  refine ⟨fun _ => LA.Stay.toA hAl (k5.weaken (by have := g4.next; omega)), ?_⟩
  try simp (config := { maxSteps := 1000000, implicitDefEqProofs := false }) (disch := omega) only [allW, allR, allL, allB, Nat.sub_self, Nat.add_one_sub_one, Nat.reduceSub, oneOf, evalAll, partsA, optA, Nat.reduceLT, Nat.reduceLeDiff, Nat.reduceEqDiff, Nat.reduceAdd, ↓reduceIte, hn, h0, h1, h6, hxu.self, hyu.self, hw.self, wB, o4.self, o5.self]
  refine (rsame_any rfl rfl _ _ _ (Nat.le_refl _) _ _ _ _ _ (o4.keeps k5) o5 sS sS).mono ?_
  rintro _ t6 ⟨⟨v6, rfl, e6⟩, k6⟩
  obtain rfl : v6 = true := e6.2 (SameO.self _)
  have g6 := g5.trans (k6.weaken g5.next)
  refine ⟨fun _ => LA.Stay.toA hAl (k6.weaken (by have := g5.next; omega)), ?_⟩
  try simp (config := { maxSteps := 1000000, implicitDefEqProofs := false }) (disch := omega) only [allW, allR, allL, allB, Nat.sub_self, Nat.add_one_sub_one, Nat.reduceSub, oneOf, evalAll, partsA, optA, Nat.reduceLT, Nat.reduceLeDiff, Nat.reduceEqDiff, Nat.reduceAdd, ↓reduceIte, hn, h0, h1, h6, hxu.self, hyu.self, hw.self, wB, o4.self, o5.self]
  refine (arr_any rfl rfl rfl F0 t6 w (D.map (·.2)) LC (wk _ g6) (rk _ g6) (by omega) hms).mono ?_
  rintro _ t7 ⟨c7, rfl, o7, k7⟩
  have g7 := g6.trans (k7.weaken g6.next)
  refine ⟨fun _ => LA.Stay.toA hAl (k7.weaken (by have := g6.next; omega)), ?_⟩
  try simp (config := { maxSteps := 1000000, implicitDefEqProofs := false }) (disch := omega) only [allW, allR, allL, allB, Nat.sub_self, Nat.add_one_sub_one, Nat.reduceSub, oneOf, evalAll, partsA, optA, Nat.reduceLT, Nat.reduceLeDiff, Nat.reduceEqDiff, Nat.reduceAdd, ↓reduceIte, hn, h0, h1, h6, hxu.self, hyu.self, hw.self, wB, o7.self]
  refine (rarr_any rfl rfl rfl F0 t7 w (D.map (·.2)) LC (wk _ g7) (rk _ g7) (by omega) hms).mono ?_
  rintro _ t8 ⟨c8, rfl, o8, k8⟩
  have g8 := g7.trans (k8.weaken g7.next)
  refine ⟨fun _ => LA.Stay.toA hAl (k8.weaken (by have := g7.next; omega)), ?_⟩
  try simp (config := { maxSteps := 1000000, implicitDefEqProofs := false }) (disch := omega) only [allW, allR, allL, allB, Nat.sub_self, Nat.add_one_sub_one, Nat.reduceSub, oneOf, evalAll, partsA, optA, Nat.reduceLT, Nat.reduceLeDiff, Nat.reduceEqDiff, Nat.reduceAdd, ↓reduceIte, hn, h0, h1, h6, hxu.self, hyu.self, hw.self, wB, o7.self, o8.self]
  refine (rsame_any rfl rfl _ _ _ (Nat.le_refl _) _ _ _ _ _ (o7.keeps k8) o8 sA sA).mono ?_
  rintro _ t9 ⟨⟨v9, rfl, e9⟩, k9⟩
  obtain rfl : v9 = true := e9.2 (SameO.self _)
  have g9 := g8.trans (k9.weaken g8.next)
  refine ⟨fun _ => LA.Stay.toA hAl (k9.weaken (by have := g8.next; omega)), ?_⟩
  try simp (config := { maxSteps := 1000000, implicitDefEqProofs := false }) (disch := omega) only [allW, allR, allL, allB, Nat.sub_self, Nat.add_one_sub_one, Nat.reduceSub, oneOf, evalAll, partsA, optA, Nat.reduceLT, Nat.reduceLeDiff, Nat.reduceEqDiff, Nat.reduceAdd, ↓reduceIte, hn, h0, h1, h6, hxu.self, hyu.self, hw.self, wB, o7.self, o8.self]
  refine (str_any rfl rfl t9 y b (yk _ g9) (by omega)).mono ?_
  rintro _ t10 ⟨c10, rfl, o10, k10⟩
  have g10 := g9.trans (k10.weaken g9.next)
  refine ⟨fun _ => LA.Stay.toA hAl (k10.weaken (by have := g9.next; omega)), ?_⟩
  try simp (config := { maxSteps := 1000000, implicitDefEqProofs := false }) (disch := omega) only [allW, allR, allL, allB, Nat.sub_self, Nat.add_one_sub_one, Nat.reduceSub, oneOf, evalAll, partsA, optA, Nat.reduceLT, Nat.reduceLeDiff, Nat.reduceEqDiff, Nat.reduceAdd, ↓reduceIte, hn, h0, h1, h6, hxu.self, hyu.self, hw.self, wB, o10.self]
  refine (rstr_any rfl rfl t10 y b (yk _ g10) (by omega)).mono ?_
  rintro _ t11 ⟨c11, rfl, o11, k11⟩
  have g11 := g10.trans (k11.weaken g10.next)
  refine ⟨fun _ => LA.Stay.toA hAl (k11.weaken (by have := g10.next; omega)), ?_⟩
  try simp (config := { maxSteps := 1000000, implicitDefEqProofs := false }) (disch := omega) only [allW, allR, allL, allB, Nat.sub_self, Nat.add_one_sub_one, Nat.reduceSub, oneOf, evalAll, partsA, optA, Nat.reduceLT, Nat.reduceLeDiff, Nat.reduceEqDiff, Nat.reduceAdd, ↓reduceIte, hn, h0, h1, h6, hxu.self, hyu.self, hw.self, wB, o10.self, o11.self]
  refine (rsame_any rfl rfl _ _ _ (Nat.le_refl _) _ _ _ _ _ (o10.keeps k11) o11 sT sT).mono ?_
  rintro _ t12 ⟨⟨v12, rfl, e12⟩, k12⟩
  obtain rfl : v12 = true := e12.2 (SameO.self _)
  have g12 := g11.trans (k12.weaken g11.next)
  refine ⟨fun _ => LA.Stay.toA hAl (k12.weaken (by have := g11.next; omega)), ?_⟩
  try simp (config := { maxSteps := 1000000, implicitDefEqProofs := false }) (disch := omega) only [allW, allR, allL, allB, Nat.sub_self, Nat.add_one_sub_one, Nat.reduceSub, oneOf, evalAll, partsA, optA, Nat.reduceLT, Nat.reduceLeDiff, Nat.reduceEqDiff, Nat.reduceAdd, ↓reduceIte, hn, h0, h1, h6, hxu.self, hyu.self, hw.self, wB, o10.self, o11.self]
  simp (config := { maxSteps := 1000000, implicitDefEqProofs := false }) (disch := omega) only [allW, allR, allL, allB, Nat.sub_self, Nat.add_one_sub_one, Nat.reduceSub, oneOf, evalAll, partsA, optA, Nat.reduceLT, Nat.reduceLeDiff, Nat.reduceEqDiff, Nat.reduceAdd, ↓reduceIte, hn, h0, h1, h6, hxu.self, hyu.self, hw.self, wB, o10.self, o11.self, Try.underlying9, (yk _ g12).str Try.underlying22 Try.underlying9 Try.underlying5, LA.lowC_of (LA.lowV_old hyu hAo), valEq_string]
  refine (name_any (lib := libN) rfl t12 b (by omega)).mono ?_
  rintro _ t13 ⟨c13, rfl, o13, k13⟩
  have g13 := g12.trans (k13.weaken g12.next)
  refine ⟨fun _ => LA.Stay.toA hAl (k13.weaken (by have := g12.next; omega)), ?_⟩
  simp (config := { maxSteps := 1000000, implicitDefEqProofs := false }) (disch := omega) only [allW, allR, allL, allB, Nat.sub_self, Nat.add_one_sub_one, Nat.reduceSub, oneOf, evalAll, partsA, optA, Nat.reduceLT, Nat.reduceLeDiff, Nat.reduceEqDiff, Nat.reduceAdd, ↓reduceIte, hn, h0, h1, h6, hxu.self, hyu.self, hw.self, wB, o13.self, Try.underlying9, (yk _ g13).str Try.underlying22 Try.underlying9 Try.underlying5, LA.lowC_of (LA.lowV_old hyu hAo), valEq_string]
  refine (rnameO_any (lib := libN) rfl t13 b (by omega)).mono ?_
  rintro _ t14 ⟨c14, rfl, o14, k14⟩
  have g14 := g13.trans (k14.weaken g13.next)
  refine ⟨fun _ => LA.Stay.toA hAl (k14.weaken (by have := g13.next; omega)), ?_⟩
  try simp (config := { maxSteps := 1000000, implicitDefEqProofs := false }) (disch := omega) only [allW, allR, allL, allB, Nat.sub_self, Nat.add_one_sub_one, Nat.reduceSub, oneOf, evalAll, partsA, optA, Nat.reduceLT, Nat.reduceLeDiff, Nat.reduceEqDiff, Nat.reduceAdd, ↓reduceIte, hn, h0, h1, h6, hxu.self, hyu.self, hw.self, wB, o13.self, o14.self]
  refine (rsame_any rfl rfl _ _ _ (Nat.le_refl _) _ _ _ _ _ (o13.keeps k14) o14 sN sN).mono ?_
  rintro _ t15 ⟨⟨v15, rfl, e15⟩, k15⟩
  obtain rfl : v15 = true := e15.2 (SameO.self _)
  refine ⟨fun _ => LA.Stay.toA hAl (k15.weaken (by have := g14.next; omega)), ?_⟩
  simp (config := { maxSteps := 1000000, implicitDefEqProofs := false }) (disch := omega) only [allW, allR, allL, allB, Nat.sub_self, Nat.add_one_sub_one, Nat.reduceSub, oneOf, evalAll, partsA, optA, Nat.reduceLT, Nat.reduceLeDiff, Nat.reduceEqDiff, Nat.reduceAdd, ↓reduceIte, hn, h0, h1, h6, hxu.self, hyu.self, hw.self, wB, allW, allR, wfn_ret, wfn_normal, oneOf, evalAll, partsA, optA, Nat.reduceLT, Nat.reduceLeDiff, Nat.reduceEqDiff, Nat.reduceAdd, ↓reduceIte, Try.results4]
  rw [hQQ]

theorem own : ownKnob Try.prog.godebug = none := by kernel_rfl
theorem sound : progOk Try.prog libN = true := by kernel_rfl
theorem laid : laidOutB Try.prog = true := by kernel_rfl
theorem read : ∀ t ∈ Try.f4.params.toList, Try.prog.readableRec t = true ∧ t < Try.prog.types.size := by
  have : (Try.f4.params.toList.all fun t => Try.prog.readableRec t && decide (t < Try.prog.types.size)) = true := by kernel_rfl
  intro t ht
  simpa using List.all_eq_true.mp this t ht
set_option maxRecDepth 100000 in
theorem lifted (os : Os) (started : os.Started) (H : Type) (enc : TypeId × Value → H) :
    ReturnsInHanded {} Try.checked os 4 .any (Rows.cosMakesSpec.pre6 enc Try.prog Try.f4 Rows.cosMakesRow.domain false) (Rows.cosMakesSpec.post enc Try.prog Try.f4 false true false false) := by
  refine returnsInHanded_of_change_sized (C := Try.checked) own started (by kernel_rfl) Try.func4
    (ChangeSpec.witness6 (enc := enc) (C := Try.checked) false ⟨#[], #[.slice none 0 0, .slice none 0 0], []⟩ 8 (by kernel_rfl) (by kernel_rfl) (by kernel_rfl) (by kernel_rfl)) ?_
  intro W base args ds gs before hval hW hcnd hsz _
  obtain ⟨p, q, hA, _, _, _, _⟩ := id hW
  have hA : DataW.TrodAll enc Try.prog W 0 (fun _ => true) true Try.f4.params.toList args.toList ds p := hA
  rw [Try.params4] at hA
  obtain ⟨v0, v1, d0, d1, p0, p1, rfl, rfl, rfl, h0, h1⟩ := trodAll_two hA
  have hv0 : Value.okWide Try.prog W .any base 24 v0 := hval 0 _ _ (by rw [Try.params4]; rfl) rfl
  have hw0 : Wt Try.prog 24 d0 := fun n hn => by simpa using List.all_eq_true.1 hsz n (DataW.weights_mem_each (j := 0) (t := 24) (d := d0) (by rw [Try.params4]; rfl) rfl n hn)
  have hv1 : Value.okWide Try.prog W .any base 22 v1 := hval 1 _ _ (by rw [Try.params4]; rfl) rfl
  have hw1 : Wt Try.prog 22 d1 := fun n hn => by simpa using List.all_eq_true.1 hsz n (DataW.weights_mem_each (j := 1) (t := 22) (d := d1) (by rw [Try.params4]; rfl) rfl n hn)
  obtain ⟨S0, x0, l0, D0, hg0, hr0, hs0, hq0, hp0, hk0⟩ := arg_ents (Begun.start W) h0 hw0 hv0
  obtain ⟨S1, x1, b1, hg1, hr1, hs1, hk1⟩ := arg_bytes hg0.begun h1 hw1 hv1
  have hcalls := Runs.callsL libFr (libOk _) sound rfl hg1.begun (law S1.s x0 D0 l0 (hs0.keeps hg1.stay) (hq0.keeps rowedE hg1.stay) hp0 hk0 x1 b1 hs1 hk1) (args' := #[v0, v1]) (VRL.cons (hr0.mono hg1.ext) (VRL.cons hr1 VRL.nil))
  refine hcalls.mono fun e W' ⟨he, hb⟩ => ?_
  subst he
  exact law_post laid read rfl Try.underlying4 rfl (fun L hL => by match L, hL with | [a0, a1], _ => rfl) hW hb

theorem over : Rows.cosMakesRow.holds Try.pinned (OpenSpec.ofChange Rows.cosMakesSpec) :=
  OpenClaim.holds_of_wide 4 Try.f4 rfl rfl rfl rfl rfl rfl rfl ⟨rfl, rfl, rfl, rfl, rfl⟩ rfl rfl rfl rfl rfl (by kernel_rfl) Try.func4 (by kernel_rfl)
    (of_decide_eq_true (by kernel_rfl)) (by unfold Func.isWrapper; first | (rw [if_pos (by decide +kernel)]; kernel_rfl) | (rw [if_neg (by decide +kernel)]; exact ⟨rfl, rfl⟩))
    (fun os started H enc _ => lifted os started H enc)

/-- THE STATEMENT. -/
theorem proved : Rows.CosMakesSaid := over
#print axioms proved
end Go.Proofs.Ytdhdhbkikhedlaa.cosMakes
