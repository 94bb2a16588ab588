/-
  Objects: whether one is small.
-/
import Derived.Test.YtdhdhbkikhedlaaCosA
set_option linter.unusedSimpArgs false
set_option linter.unusedVariables false
set_option maxRecDepth 100000
namespace Go.Proofs.Ytdhdhbkikhedlaa
open Go.Cl
def Roomed (most : Int) (s : ASt) (o : O) (v : Value) (s' : ASt) : Prop := Tells (Small o ∧ (o.items.length : Int) + (o.ents.length : Int) ≤ most) v ∧ Stay s.next s s'
set_option maxHeartbeats 8000000 in
theorem room_any {lib : Prims} (hl0 : lib.at 11 = none) (most : Int) (hm : most ≤ 100000) : ∀ (N : Nat) (o : O), SizeOf.sizeOf o ≤ N → ∀ (F : Nat → Prop) (s : ASt) (cs : List Value) (depth : Int), OIs F s cs o → Fit o → -1 ≤ depth → depth ≤ 1000 →
    Runs Try.prog lib 11 [.agg cs.toArray, .int .i64 depth, .int .i64 most] s (Roomed most s o) := by
  intro N
  induction N with
  | zero => intro o h; cases o; simp at h
  | succ N ih =>
  intro o hN F s cs depth ho hfit hd0 hd1
  cases o with
  | mk kind num b l d =>
  obtain ⟨bv, lv, dv, lc, dc, rfl, hb, hL, hD, fb, fl, fd, rl, rd⟩ := ho.parts
  cases hfit with
  | mk hfb hfl hfd hfK hfL hfD =>
  refine Runs.enter 73 Try.func11 rfl hl0 rfl rfl ?_
  intro f hn hf
  have h0 : f.get 0 = .agg #[.int .i64 kind, .int .i64 num, bv, lv, dv] := hf 0
  have h1 : f.get 1 = .int .i64 depth := hf 1
  have h2 : f.get 2 = .int .i64 most := hf 2
  clear hf
  simp (config := { maxSteps := 1000000, implicitDefEqProofs := false }) (disch := omega) only [allW, allR, oneOf, evalAll, partsA, optA, Nat.reduceLT, Nat.reduceLeDiff, Nat.reduceEqDiff, Nat.reduceAdd, ↓reduceIte, hn, h0, h1, h2]
  refine wstep_newPtr ?_
  intro s1 ht1 hst1 hnx1
  have l2 : loadA Try.prog s1 22 (.pointer (some ⟨s.next, 2, some 6⟩)) = some bv := ht1.load agSl (off := 2) (c := 6) rfl (by simp)
  have l3 : loadA Try.prog s1 23 (.pointer (some ⟨s.next, 3, some 6⟩)) = some lv := ht1.load agLs (off := 3) (c := 6) rfl (by simp)
  have l4 : loadA Try.prog s1 24 (.pointer (some ⟨s.next, 4, some 6⟩)) = some dv := ht1.load agDs (off := 4) (c := 6) rfl (by simp)
  have hb1 := hb.keeps hst1
  have hL1 := hL.keeps hst1
  have hD1 := hD.keeps hst1
  have hno : ∀ (f : AFr) (s6 : ASt), Stay s.next s s6 → f.n = 73 → f.get 6 = .bool false → wfn Try.prog Try.f11.results.toList (Roomed most s (.mk kind num b l d)) .ret f s6 := by
    intro f s6 hs hn h6
    simp (config := { maxSteps := 1000000, implicitDefEqProofs := false }) (disch := omega) only [allW, allR, wfn_ret, wfn_normal, oneOf, evalAll, partsA, optA, Nat.reduceLT, Nat.reduceLeDiff, Nat.reduceEqDiff, Nat.reduceAdd, ↓reduceIte, hn, h6, Try.results11]
    exact ⟨⟨false, rfl, fun h => by cases h⟩, hs⟩
  by_cases c1 : depth < 0
  · simp (config := { maxSteps := 1000000, implicitDefEqProofs := false }) (disch := omega) only [allW, allR, oneOf, evalAll, partsA, optA, Nat.reduceLT, Nat.reduceLeDiff, Nat.reduceEqDiff, Nat.reduceAdd, ↓reduceIte, undef, hn, h0, h1, h2, List.length_cons, List.length_nil, eq_true c1]
    exact hno _ _ hst1 (by simp only [get_put, n_put, ↓reduceIte, Nat.reduceEqDiff, hn]) (by simp only [get_put, n_put, ↓reduceIte, Nat.reduceEqDiff])
  by_cases c2 : ((b.length : Nat) : Int) > 3000
  · simp (config := { maxSteps := 1000000, implicitDefEqProofs := false }) (disch := omega) only [allW, allR, oneOf, evalAll, partsA, optA, Nat.reduceLT, Nat.reduceLeDiff, Nat.reduceEqDiff, Nat.reduceAdd, ↓reduceIte, undef, hn, h0, h1, h2, List.length_cons, List.length_nil, eq_false c1, of2, l2, hb1.lenA Try.underlying22, eq_true c2]
    exact hno _ _ hst1 (by simp only [get_put, n_put, ↓reduceIte, Nat.reduceEqDiff, hn]) (by simp only [get_put, n_put, ↓reduceIte, Nat.reduceEqDiff])
  by_cases c3 : ((l.length : Nat) : Int) + ((d.length : Nat) : Int) > most
  · simp (config := { maxSteps := 1000000, implicitDefEqProofs := false }) (disch := omega) only [allW, allR, oneOf, evalAll, partsA, optA, Nat.reduceLT, Nat.reduceLeDiff, Nat.reduceEqDiff, Nat.reduceAdd, ↓reduceIte, undef, hn, h0, h1, h2, List.length_cons, List.length_nil, eq_false c1, of2, l2, hb1.lenA Try.underlying22, eq_false c2, of3, of4, l3, l4, hL1.lenA Try.underlying23, hD1.lenA Try.underlying24, wrapI, eq_true c3]
    exact hno _ _ hst1 (by simp only [get_put, n_put, ↓reduceIte, Nat.reduceEqDiff, hn]) (by simp only [get_put, n_put, ↓reduceIte, Nat.reduceEqDiff])
  simp (config := { maxSteps := 1000000, implicitDefEqProofs := false }) (disch := omega) only [allW, allR, oneOf, evalAll, partsA, optA, Nat.reduceLT, Nat.reduceLeDiff, Nat.reduceEqDiff, Nat.reduceAdd, ↓reduceIte, undef, hn, h0, h1, h2, List.length_cons, List.length_nil, eq_false c1, of2, l2, hb1.lenA Try.underlying22, eq_false c2, of3, of4, l3, l4, hL1.lenA Try.underlying23, hD1.lenA Try.underlying24, wrapI, eq_false c3]
  refine Comes.loopOut (fun z f s6 => ∃ i : Nat, z = l.length - i ∧ i ≤ l.length ∧ (∀ x ∈ l.take i, Small x) ∧ Thing s6 s.next [.int .i64 kind, .int .i64 num, bv, lv, dv] ∧ Stay s.next s s6 ∧ f.n = 73 ∧ f.get 1 = .int .i64 depth ∧ f.get 2 = .int .i64 most ∧ f.get 3 = .pointer (some ⟨s.next, 0, some 6⟩) ∧ f.get 7 = .int .i64 (i : Nat))
    (fun z f s6 => (z = .ret ∧ Stay s.next s s6 ∧ f.n = 73 ∧ f.get 6 = .bool false) ∨ (z = .exit 0 ∧ (∀ x ∈ l, Small x) ∧ Thing s6 s.next [.int .i64 kind, .int .i64 num, bv, lv, dv] ∧ Stay s.next s s6 ∧ f.n = 73 ∧ f.get 1 = .int .i64 depth ∧ f.get 2 = .int .i64 most ∧ f.get 3 = .pointer (some ⟨s.next, 0, some 6⟩)))
    ⟨0, rfl, by omega, by simp, ht1, hst1, by simp only [get_put, n_put, ↓reduceIte, Nat.reduceEqDiff, hn], by simp only [get_put, n_put, ↓reduceIte, Nat.reduceEqDiff, h1], by simp only [get_put, n_put, ↓reduceIte, Nat.reduceEqDiff, h2], by simp only [get_put, n_put, ↓reduceIte, Nat.reduceEqDiff], by simp only [get_put, n_put, ↓reduceIte, Nat.reduceEqDiff]; rfl⟩ ?_ ?_
  · clear hn h0 h1 h2 f l2 l3 l4 hb1 hL1 hD1 ht1 hno
    rintro Q hQ z f s6 ⟨i, rfl, hi, hS, ht, hs, hn, h1, h2, h3, h7⟩
    have hL6 := hL.keeps hs
    have l6 : loadA Try.prog s6 23 (.pointer (some ⟨s.next, 3, some 6⟩)) = some lv := ht.load agLs (off := 3) (c := 6) rfl (by simp)
    by_cases hlt : i < l.length
    rotate_left
    · obtain rfl : i = l.length := by omega
      rw [List.take_length] at hS
      have d1 : ¬ ((l.length : Nat) : Int) < ((l.length : Nat) : Int) := by omega
      simp (config := { maxSteps := 1000000, implicitDefEqProofs := false }) (disch := omega) only [allW, allR, oneOf, evalAll, partsA, optA, Nat.reduceLT, Nat.reduceLeDiff, Nat.reduceEqDiff, Nat.reduceAdd, ↓reduceIte, hn, h1, h2, h3, h7, of3, l6, hL6.lenA Try.underlying23, eq_false d1]
      exact hQ _ _ _ (.inr ⟨rfl, hS, ht, hs, by simp only [get_put, n_put, ↓reduceIte, Nat.reduceEqDiff, hn], by simp only [get_put, n_put, ↓reduceIte, Nat.reduceEqDiff, h1], by simp only [get_put, n_put, ↓reduceIte, Nat.reduceEqDiff, h2], by simp only [get_put, n_put, ↓reduceIte, Nat.reduceEqDiff, h3]⟩)
    have d1 : (i : Int) < (l.length : Int) := by omega
    simp (config := { maxSteps := 1000000, implicitDefEqProofs := false }) (disch := omega) only [allW, allR, allL, allB, Nat.sub_self, Nat.add_one_sub_one, Nat.reduceSub, oneOf, evalAll, partsA, optA, Nat.reduceLT, Nat.reduceLeDiff, Nat.reduceEqDiff, Nat.reduceAdd, ↓reduceIte, hn, h1, h2, h3, h7, of3, l6, hL6.lenA Try.underlying23, eq_true d1]
    have hix := hL6.indexAddr (P := Try.prog) (k := .i64) (x := (i : Int)) Try.underlying23 szO (by omega) (by omega)
    rw [Int.toNat_natCast] at hix
    have hld := hL6.loadAgg (P := Try.prog) agO szO hlt
    have hoi := (rl.row i hlt).keeps hs
    simp (config := { maxSteps := 1000000, implicitDefEqProofs := false }) (disch := omega) only [allW, allR, oneOf, evalAll, partsA, optA, Nat.reduceLT, Nat.reduceLeDiff, Nat.reduceEqDiff, Nat.reduceAdd, ↓reduceIte, hn, h1, h2, h3, h7, of3, l6, hL6.self, hix, hld, hoi.self, wrapI]
    refine (ih l[i] (by have := O.items_lt (k := kind) (n := num) (b := b) (l := l) (d := d) (List.getElem_mem hlt); omega) F s6 _ (depth - 1) hoi (hfL _ (List.getElem_mem hlt)) (by omega) (by omega)).mono ?_
    rintro _ s7 ⟨⟨t, rfl, ht7⟩, hs7⟩
    have hn7 := hs7.next
    have hss := hs.trans (hs7.weaken hs.next)
    have htt := ht.keeps hs7
    cases t with
    | false =>
      simp (config := { maxSteps := 1000000, implicitDefEqProofs := false }) (disch := omega) only [allW, allR, oneOf, evalAll, partsA, optA, Nat.reduceLT, Nat.reduceLeDiff, Nat.reduceEqDiff, Nat.reduceAdd, ↓reduceIte, hn, h1, h2, h3, h7]
      exact hQ _ _ _ (.inl ⟨rfl, hss, by simp only [get_put, n_put, ↓reduceIte, Nat.reduceEqDiff, hn], by simp only [get_put, n_put, ↓reduceIte, Nat.reduceEqDiff]⟩)
    | true =>
      simp (config := { maxSteps := 1000000, implicitDefEqProofs := false }) (disch := omega) only [allW, allR, oneOf, evalAll, partsA, optA, Nat.reduceLT, Nat.reduceLeDiff, Nat.reduceEqDiff, Nat.reduceAdd, ↓reduceIte, hn, h1, h2, h3, h7, wrapI]
      exact wround_next (l.length - (i + 1)) (by omega) ⟨i + 1, rfl, by omega, small_take hS hlt (ht7 rfl).1, htt, hss, by simp only [get_put, n_put, ↓reduceIte, Nat.reduceEqDiff, hn], by simp only [get_put, n_put, ↓reduceIte, Nat.reduceEqDiff, h1], by simp only [get_put, n_put, ↓reduceIte, Nat.reduceEqDiff, h2], by simp only [get_put, n_put, ↓reduceIte, Nat.reduceEqDiff, h3], by simp only [get_put, n_put, ↓reduceIte, Nat.reduceEqDiff]; rfl⟩
  clear hn h0 h1 h2 f l2 l3 l4 hb1 hL1 hD1 ht1
  rintro z f s6 (⟨rfl, hs, hn, h6⟩ | ⟨rfl, hS, ht, hs, hn, h1, h2, h3⟩)
  · simp (config := { maxSteps := 1000000, implicitDefEqProofs := false }) (disch := omega) only [allW, allR, oneOf, evalAll, partsA, optA, Nat.reduceLT, Nat.reduceLeDiff, Nat.reduceEqDiff, Nat.reduceAdd, ↓reduceIte]
    exact hno _ _ hs hn h6
  simp (config := { maxSteps := 1000000, implicitDefEqProofs := false }) (disch := omega) only [allW, allR, oneOf, evalAll, partsA, optA, Nat.reduceLT, Nat.reduceLeDiff, Nat.reduceEqDiff, Nat.reduceAdd, ↓reduceIte, hn, h1, h2, h3]
  refine Comes.loopOut (fun z f s6 => ∃ i : Nat, z = d.length - i ∧ i ≤ d.length ∧ (∀ e ∈ d.take i, e.1.length ≤ 100000 ∧ Small e.2) ∧ Thing s6 s.next [.int .i64 kind, .int .i64 num, bv, lv, dv] ∧ Stay s.next s s6 ∧ f.n = 73 ∧ f.get 1 = .int .i64 depth ∧ f.get 2 = .int .i64 most ∧ f.get 3 = .pointer (some ⟨s.next, 0, some 6⟩) ∧ f.get 8 = .int .i64 (i : Nat))
    (fun z f s6 => (z = .ret ∧ Stay s.next s s6 ∧ f.n = 73 ∧ f.get 6 = .bool false) ∨ (z = .exit 2 ∧ (∀ e ∈ d, e.1.length ≤ 100000 ∧ Small e.2) ∧ Stay s.next s s6 ∧ f.n = 73))
    ⟨0, rfl, by omega, by simp, ht, hs, by simp only [get_put, n_put, ↓reduceIte, Nat.reduceEqDiff, hn], by simp only [get_put, n_put, ↓reduceIte, Nat.reduceEqDiff, h1], by simp only [get_put, n_put, ↓reduceIte, Nat.reduceEqDiff, h2], by simp only [get_put, n_put, ↓reduceIte, Nat.reduceEqDiff, h3], by simp only [get_put, n_put, ↓reduceIte, Nat.reduceEqDiff]; rfl⟩ ?_ ?_
  · clear hn h1 h2 h3 f hs ht s6 hno
    rintro Q hQ z f s6 ⟨i, rfl, hi, hK, ht, hs, hn, h1, h2, h3, h8⟩
    have hD6 := hD.keeps hs
    have l6 : loadA Try.prog s6 24 (.pointer (some ⟨s.next, 4, some 6⟩)) = some dv := ht.load agDs (off := 4) (c := 6) rfl (by simp)
    by_cases hlt : i < d.length
    rotate_left
    · obtain rfl : i = d.length := by omega
      rw [List.take_length] at hK
      have d1 : ¬ ((d.length : Nat) : Int) < ((d.length : Nat) : Int) := by omega
      simp (config := { maxSteps := 1000000, implicitDefEqProofs := false }) (disch := omega) only [allW, allR, oneOf, evalAll, partsA, optA, Nat.reduceLT, Nat.reduceLeDiff, Nat.reduceEqDiff, Nat.reduceAdd, ↓reduceIte, hn, h1, h2, h3, h8, of4, l6, hD6.lenA Try.underlying24, eq_false d1]
      exact hQ _ _ _ (.inr ⟨rfl, hK, hs, by simp only [get_put, n_put, ↓reduceIte, Nat.reduceEqDiff, hn]⟩)
    have d1 : (i : Int) < (d.length : Int) := by omega
    have hix := hD6.indexAddr (P := Try.prog) (k := .i64) (x := (i : Int)) Try.underlying24 szE (by omega) (by omega)
    rw [Int.toNat_natCast] at hix
    obtain ⟨q0, q1⟩ := efE hD6 hlt
    obtain ⟨r, hr1, hr2, hr3⟩ := rd.row i hlt
    obtain ⟨hk6, hv6⟩ := chunk6 hr1
    have hlk := hD6.loadField (P := Try.prog) agStr hlt (j := 0) (by omega)
    rw [Nat.add_zero, hk6] at hlk
    have hlv := hD6.loadPart (P := Try.prog) agO szO hlt (j := 1) (by omega)
    rw [hv6] at hlv
    have hoi := hr2.keeps hs
    by_cases c1 : ((d[i].1.length : Nat) : Int) > 300
    · simp (config := { maxSteps := 1000000, implicitDefEqProofs := false }) (disch := omega) only [allW, allR, oneOf, evalAll, partsA, optA, Nat.reduceLT, Nat.reduceLeDiff, Nat.reduceEqDiff, Nat.reduceAdd, ↓reduceIte, undef, hn, h1, h2, h3, h8, of4, l6, hD6.lenA Try.underlying24, eq_true d1, hD6.self, hix, q0, q1, hlk, hlv, valEq_string, str_len Try.underlying9, eq_true c1]
      exact hQ _ _ _ (.inl ⟨rfl, hs, by simp only [get_put, n_put, ↓reduceIte, Nat.reduceEqDiff, hn], by simp only [get_put, n_put, ↓reduceIte, Nat.reduceEqDiff]⟩)
    simp (config := { maxSteps := 1000000, implicitDefEqProofs := false }) (disch := omega) only [allW, allR, oneOf, evalAll, partsA, optA, Nat.reduceLT, Nat.reduceLeDiff, Nat.reduceEqDiff, Nat.reduceAdd, ↓reduceIte, undef, hn, h1, h2, h3, h8, of4, l6, hD6.lenA Try.underlying24, eq_true d1, hD6.self, hix, q0, q1, hlk, hlv, valEq_string, str_len Try.underlying9, eq_false c1, hoi.self, wrapI]
    refine (ih d[i].2 (by have := O.ents_lt (k := kind) (n := num) (b := b) (l := l) (d := d) (List.getElem_mem hlt); omega) F s6 _ (depth - 1) hoi (hfD _ (List.getElem_mem hlt)) (by omega) (by omega)).mono ?_
    rintro _ s7 ⟨⟨t, rfl, ht7⟩, hs7⟩
    have hn7 := hs7.next
    have hss := hs.trans (hs7.weaken hs.next)
    have htt := ht.keeps hs7
    cases t with
    | false =>
      simp (config := { maxSteps := 1000000, implicitDefEqProofs := false }) (disch := omega) only [allW, allR, oneOf, evalAll, partsA, optA, Nat.reduceLT, Nat.reduceLeDiff, Nat.reduceEqDiff, Nat.reduceAdd, ↓reduceIte, hn, h1, h2, h3, h8]
      exact hQ _ _ _ (.inl ⟨rfl, hss, by simp only [get_put, n_put, ↓reduceIte, Nat.reduceEqDiff, hn], by simp only [get_put, n_put, ↓reduceIte, Nat.reduceEqDiff]⟩)
    | true =>
      simp (config := { maxSteps := 1000000, implicitDefEqProofs := false }) (disch := omega) only [allW, allR, oneOf, evalAll, partsA, optA, Nat.reduceLT, Nat.reduceLeDiff, Nat.reduceEqDiff, Nat.reduceAdd, ↓reduceIte, hn, h1, h2, h3, h8, wrapI]
      refine wround_next (d.length - (i + 1)) (by omega) ⟨i + 1, rfl, by omega, ?_, htt, hss, by simp only [get_put, n_put, ↓reduceIte, Nat.reduceEqDiff, hn], by simp only [get_put, n_put, ↓reduceIte, Nat.reduceEqDiff, h1], by simp only [get_put, n_put, ↓reduceIte, Nat.reduceEqDiff, h2], by simp only [get_put, n_put, ↓reduceIte, Nat.reduceEqDiff, h3], by simp only [get_put, n_put, ↓reduceIte, Nat.reduceEqDiff]; rfl⟩
      intro x hm
      rw [List.take_add_one, List.getElem?_eq_getElem hlt, List.mem_append] at hm
      rcases hm with hm | hm
      · exact hK x hm
      · simp at hm; rw [hm]; exact ⟨by omega, (ht7 rfl).1⟩
  clear hn h1 h2 h3 f hs ht s6
  rintro z f s6 (⟨rfl, hs, hn, h6⟩ | ⟨rfl, hK, hs, hn⟩)
  · simp (config := { maxSteps := 1000000, implicitDefEqProofs := false }) (disch := omega) only [allW, allR, oneOf, evalAll, partsA, optA, Nat.reduceLT, Nat.reduceLeDiff, Nat.reduceEqDiff, Nat.reduceAdd, ↓reduceIte]
    exact hno _ _ hs hn h6
  simp (config := { maxSteps := 1000000, implicitDefEqProofs := false }) (disch := omega) only [allW, allR, wfn_ret, wfn_normal, oneOf, evalAll, partsA, optA, Nat.reduceLT, Nat.reduceLeDiff, Nat.reduceEqDiff, Nat.reduceAdd, ↓reduceIte, hn, Try.results11]
  exact ⟨⟨true, rfl, fun _ => ⟨.mk (by omega) (by omega) (by omega) (fun e he => (hK e he).1) hS (fun e he => (hK e he).2), by simp only [O.items, O.ents]; omega⟩⟩, hs⟩
end Go.Proofs.Ytdhdhbkikhedlaa
