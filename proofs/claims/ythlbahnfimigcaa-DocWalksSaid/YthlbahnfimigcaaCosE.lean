/-
  Objects: Same.
-/
import Derived.Test.YthlbahnfimigcaaCosD
import Derived.Test.YthlbahnfimigcaaCosS
set_option linter.unusedSimpArgs false
set_option linter.unusedVariables false
namespace Go.Proofs.Ythlbahnfimigcaa
open Go.Cl
theorem entOk {F : Nat → Prop} {s : ASt} {cs : List Value} {e : List UInt8 × O} (h : EntIs F s cs e) : cs.all okCell = true := by
  obtain ⟨r, e, h, _⟩ := h
  rw [e, List.all_cons, h.ok]; rfl
def KeyAnd (s : ASt) (e1 e2 : List UInt8 × O) (v : Value) (s' : ASt) : Prop := Answers (e1.1 = e2.1 ∧ SameO e1.2 e2.2) v ∧ Stay s.next s s'
theorem alike_any {lib : Prims} (hl : lib.at 72 = none) (s : ASt) (F G : Nat → Prop) (c1 c2 : List Value) (e1 e2 : List UInt8 × O) (h1 : EntIs F s c1 e1) (h2 : EntIs G s c2 e2)
    (h : ∀ (s' : ASt) (r1 r2 : List Value), Stay s.next s s' → OIs F s' r1 e1.2 → OIs G s' r2 e2.2 → Runs Try.prog lib 55 [.agg r1.toArray, .agg r2.toArray] s' (Told2 s' e1.2 e2.2)) :
    Runs Try.prog lib 72 [.agg c1.toArray, .agg c2.toArray] s (KeyAnd s e1 e2) := by
  obtain ⟨r1, rfl, o1, -⟩ := h1
  obtain ⟨r2, rfl, o2, -⟩ := h2
  have q1 := o1.len
  have q2 := o2.len
  refine Runs.enter 17 Try.func72 rfl hl rfl rfl ?_
  intro f hn hf
  have h0 : f.get 0 = .agg (.string ⟨e1.1.toArray⟩ :: r1).toArray := hf 0
  have h1 : f.get 1 = .agg (.string ⟨e2.1.toArray⟩ :: r2).toArray := hf 1
  clear hf
  simp (config := { maxSteps := 1000000, implicitDefEqProofs := false }) (disch := omega) only [allW, Nat.reduceLT, ↓reduceIte, hn, h0]
  refine wstep_newPtr ?_
  intro s1 ht1 hst1 hnx1
  simp (config := { maxSteps := 1000000, implicitDefEqProofs := false }) (disch := omega) only [allW, Nat.reduceLT, Nat.reduceEqDiff, Nat.reduceAdd, ↓reduceIte, hn, h1, List.length_cons, q1]
  refine wstep_newPtr ?_
  intro s2 ht2 hst2 hnx2
  have ht1 := ht1.keeps hst2
  have hs2 : Stay s.next s s2 := hst1.trans (hst2.weaken (by omega))
  have l1 : loadA Try.prog s2 9 (.pointer (some ⟨s.next, 0, some 7⟩)) = some (.string ⟨e1.1.toArray⟩) := ht1.load agStr (off := 0) (c := 7) (by simp [q1]) (by simp)
  have l2 : loadA Try.prog s2 9 (.pointer (some ⟨s1.next, 0, some 7⟩)) = some (.string ⟨e2.1.toArray⟩) := ht2.load agStr (off := 0) (c := 7) (by simp [q2]) (by simp)
  have m1 : loadA Try.prog s2 26 (.pointer (some ⟨s.next, 1, some 7⟩)) = some (.agg r1.toArray) := by
    have := Thing.loadMid (P := Try.prog) agO szO ht1 (off := 1) (c := 7) (by simp [q1]) (by simp [q1])
    rw [this, List.drop_succ_cons, List.drop_zero, List.take_of_length_le (by omega)]
  have m2 : loadA Try.prog s2 26 (.pointer (some ⟨s1.next, 1, some 7⟩)) = some (.agg r2.toArray) := by
    have := Thing.loadMid (P := Try.prog) agO szO ht2 (off := 1) (c := 7) (by simp [q2]) (by simp [q2])
    rw [this, List.drop_succ_cons, List.drop_zero, List.take_of_length_le (by omega)]
  by_cases ck : e1.1 = e2.1
  rotate_left
  · simp (config := { maxSteps := 1000000, implicitDefEqProofs := false }) (disch := omega) only [allW, allR, wfn_ret, oneOf, Nat.reduceLT, Nat.reduceEqDiff, Nat.reduceAdd, ↓reduceIte, undef, hn, List.length_cons, q2, ofE0, l1, l2, str_eql, decide_eq_false ck, Try.results72]
    exact ⟨.no (fun h => ck h.1), hs2⟩
  simp (config := { maxSteps := 1000000, implicitDefEqProofs := false }) (disch := omega) only [allW, allR, evalAll, Nat.reduceLT, Nat.reduceEqDiff, Nat.reduceAdd, ↓reduceIte, hn, List.length_cons, q2, ofE0, ofE1, l1, l2, m1, m2, str_eql, decide_eq_true ck]
  refine (h s2 r1 r2 hs2 (o1.keeps hs2) (o2.keeps hs2)).mono ?_
  rintro _ s3 ⟨⟨t, rfl, ht⟩, hs3⟩
  simp (config := { maxSteps := 1000000, implicitDefEqProofs := false }) (disch := omega) only [allW, wfn_ret, oneOf, Nat.reduceLT, Nat.reduceEqDiff, ↓reduceIte, hn, Try.results72]
  exact ⟨⟨t, rfl, ⟨fun h => ⟨ck, ht.1 h⟩, fun h => ht.2 h.2⟩⟩, hs2.trans (hs3.weaken hs2.next)⟩
set_option maxHeartbeats 8000000 in
theorem csame_any {lib : Prims} (hl0 : lib.at 55 = none) (hl1 : lib.at 70 = none) (hl2 : lib.at 71 = none) (hl3 : lib.at 73 = none) (hl4 : lib.at 72 = none) : ∀ (N : Nat) (a b : O), SizeOf.sizeOf a ≤ N → ∀ (F G : Nat → Prop) (s : ASt) (ca cb : List Value), OIs F s ca a → OIs G s cb b → Small a → Small b →
    Runs Try.prog lib 55 [.agg ca.toArray, .agg cb.toArray] s (Told2 s a b) := by
  intro N
  induction N with
  | zero => intro o b h; cases o; simp at h
  | succ N ih =>
  intro a b hN F G s ca cb ha hb sa sb
  cases a with
  | mk k n ba l d =>
  cases b with
  | mk k' n' bb l' d' =>
  obtain ⟨bv, lv, dv, lc, dc, rfl, hb1, hL1, hD1, -, -, -, rl, rd⟩ := ha.parts
  obtain ⟨bw, lw, dw, lc', dc', rfl, hb2, hL2, hD2, -, -, -, rl', rd'⟩ := hb.parts
  cases sa with
  | mk x1 x2 x3 x4 x5 x6 =>
  cases sb with
  | mk y1 y2 y3 y4 y5 y6 =>
  refine Runs.enter 59 Try.func55 rfl hl0 rfl rfl ?_
  intro f hn hf
  have h0 : f.get 0 = .agg #[.int .i64 k, .int .i64 n, bv, lv, dv] := hf 0
  have h1 : f.get 1 = .agg #[.int .i64 k', .int .i64 n', bw, lw, dw] := hf 1
  clear hf
  simp (config := { maxSteps := 1000000, implicitDefEqProofs := false }) (disch := omega) only [allW, Nat.reduceLT, ↓reduceIte, hn, h0]
  refine wstep_newPtr ?_
  intro s1 ht1 hst1 hnx1
  simp (config := { maxSteps := 1000000, implicitDefEqProofs := false }) (disch := omega) only [allW, Nat.reduceLT, Nat.reduceEqDiff, Nat.reduceAdd, ↓reduceIte, hn, h1, List.length_cons, List.length_nil]
  refine wstep_newPtr ?_
  intro s2 ht2 hst2 hnx2
  have ht12 := ht1.keeps hst2
  have hs2 : Stay s.next s s2 := hst1.trans (hst2.weaken (by omega))
  have p0 : loadA Try.prog s2 3 (.pointer (some ⟨s.next, 0, some 6⟩)) = some (.int .i64 k) := ht12.load agInt (off := 0) (c := 6) rfl (by simp)
  have p1 : loadA Try.prog s2 2 (.pointer (some ⟨s.next, 1, some 6⟩)) = some (.int .i64 n) := ht12.load agI64 (off := 1) (c := 6) rfl (by simp)
  have p2 : loadA Try.prog s2 22 (.pointer (some ⟨s.next, 2, some 6⟩)) = some bv := ht12.load agSl (off := 2) (c := 6) rfl (by simp)
  have p3 : loadA Try.prog s2 23 (.pointer (some ⟨s.next, 3, some 6⟩)) = some lv := ht12.load agLs (off := 3) (c := 6) rfl (by simp)
  have p4 : loadA Try.prog s2 24 (.pointer (some ⟨s.next, 4, some 6⟩)) = some dv := ht12.load agDs (off := 4) (c := 6) rfl (by simp)
  have q0 : loadA Try.prog s2 3 (.pointer (some ⟨s1.next, 0, some 6⟩)) = some (.int .i64 k') := ht2.load agInt (off := 0) (c := 6) rfl (by simp)
  have q1 : loadA Try.prog s2 2 (.pointer (some ⟨s1.next, 1, some 6⟩)) = some (.int .i64 n') := ht2.load agI64 (off := 1) (c := 6) rfl (by simp)
  have q2 : loadA Try.prog s2 22 (.pointer (some ⟨s1.next, 2, some 6⟩)) = some bw := ht2.load agSl (off := 2) (c := 6) rfl (by simp)
  have q3 : loadA Try.prog s2 23 (.pointer (some ⟨s1.next, 3, some 6⟩)) = some lw := ht2.load agLs (off := 3) (c := 6) rfl (by simp)
  have q4 : loadA Try.prog s2 24 (.pointer (some ⟨s1.next, 4, some 6⟩)) = some dw := ht2.load agDs (off := 4) (c := 6) rfl (by simp)
  have eb1 := hb1.keeps hs2
  have eb2 := hb2.keeps hs2
  have eL1 := hL1.keeps hs2
  have eL2 := hL2.keeps hs2
  have eD1 := hD1.keeps hs2
  have eD2 := hD2.keeps hs2
  have hend : ∀ (f : AFr) (s6 : ASt) (t : Bool), Stay s.next s s6 → f.n = 59 → f.get 4 = .bool t → (t = true ↔ SameO (.mk k n ba l d) (.mk k' n' bb l' d')) → wfn Try.prog Try.f55.results.toList (Told2 s (.mk k n ba l d) (.mk k' n' bb l' d')) .ret f s6 := by
    intro f s6 t hs hn h4 ht
    simp (config := { maxSteps := 1000000, implicitDefEqProofs := false }) (disch := omega) only [allW, wfn_ret, oneOf, Nat.reduceLT, ↓reduceIte, hn, h4, Try.results55]
    exact ⟨⟨t, rfl, ht⟩, hs⟩
  by_cases hk : k = k'
  rotate_left
  · simp (config := { maxSteps := 1000000, implicitDefEqProofs := false }) (disch := omega) only [allW, allR, Nat.reduceLT, Nat.reduceEqDiff, Nat.reduceAdd, ↓reduceIte, hn, of0, p0, q0, List.length_cons, List.length_nil, eq_false hk]
    exact hend _ _ false hs2 (by simp only [n_put, hn]) (by simp only [get_put, ↓reduceIte]) ⟨fun h => by (cases h), fun h => absurd h.inv.1 hk⟩
  subst hk
  by_cases c1 : k = 1
  · simp (config := { maxSteps := 1000000, implicitDefEqProofs := false }) (disch := omega) only [allW, allR, Nat.reduceLT, Nat.reduceEqDiff, Nat.reduceAdd, ↓reduceIte, of0, of1, p0, q0, p1, q1, List.length_cons, List.length_nil, hn, eq_true c1]
    exact hend _ _ (decide (n = n')) hs2 (by simp only [n_put, hn]) (by simp only [get_put, ↓reduceIte]) ⟨fun h => .mk (fun _ => of_decide_eq_true h) (fun h => by omega) (fun h => by omega) (fun h => by omega) (fun h => by omega) (fun h => by omega) (fun h => by omega), fun h => decide_eq_true (h.inv.2.1 (by omega))⟩
  by_cases c2 : k = 2
  · simp (config := { maxSteps := 1000000, implicitDefEqProofs := false }) (disch := omega) only [allW, allR, Nat.reduceLT, Nat.reduceEqDiff, Nat.reduceAdd, ↓reduceIte, hn, of0, of1, p0, q0, p1, q1, List.length_cons, List.length_nil, eq_false c1, eq_true c2]
    exact hend _ _ (decide (n = n')) hs2 (by simp only [n_put, hn]) (by simp only [get_put, ↓reduceIte]) ⟨fun h => .mk (fun _ => of_decide_eq_true h) (fun h => by omega) (fun h => by omega) (fun h => by omega) (fun h => by omega) (fun h => by omega) (fun h => by omega), fun h => decide_eq_true (h.inv.2.1 (by omega))⟩
  by_cases c3 : k = 3
  · simp (config := { maxSteps := 1000000, implicitDefEqProofs := false }) (disch := omega) only [allW, allR, Nat.reduceLT, Nat.reduceEqDiff, Nat.reduceAdd, ↓reduceIte, hn, of0, of1, p0, q0, p1, q1, List.length_cons, List.length_nil, eq_false c1, eq_false c2, eq_true c3]
    exact hend _ _ (decide (n = n')) hs2 (by simp only [n_put, hn]) (by simp only [get_put, ↓reduceIte]) ⟨fun h => .mk (fun _ => of_decide_eq_true h) (fun h => by omega) (fun h => by omega) (fun h => by omega) (fun h => by omega) (fun h => by omega) (fun h => by omega), fun h => decide_eq_true (h.inv.2.1 (by omega))⟩
  by_cases c9 : k = 9
  · simp (config := { maxSteps := 1000000, implicitDefEqProofs := false }) (disch := omega) only [allW, allR, Nat.reduceLT, Nat.reduceEqDiff, Nat.reduceAdd, ↓reduceIte, hn, of0, of1, p0, q0, p1, q1, List.length_cons, List.length_nil, eq_false c1, eq_false c2, eq_false c3, eq_true c9]
    exact hend _ _ (decide (n = n')) hs2 (by simp only [n_put, hn]) (by simp only [get_put, ↓reduceIte]) ⟨fun h => .mk (fun _ => of_decide_eq_true h) (fun h => by omega) (fun h => by omega) (fun h => by omega) (fun h => by omega) (fun h => by omega) (fun h => by omega), fun h => decide_eq_true (h.inv.2.1 (by omega))⟩
  by_cases c4 : k = 4
  · simp (config := { maxSteps := 1000000, implicitDefEqProofs := false }) (disch := omega) only [allW, allR, evalAll, Nat.reduceLT, Nat.reduceEqDiff, Nat.reduceAdd, ↓reduceIte, hn, of0, of2, p0, q0, p2, q2, List.length_cons, List.length_nil, eq_false c1, eq_false c2, eq_false c3, eq_false c9, eq_true c4]
    refine (equal_any hl1 s2 bv bw ba bb eb1 eb2).mono ?_
    rintro _ _ ⟨rfl, rfl⟩
    simp (config := { maxSteps := 1000000, implicitDefEqProofs := false }) (disch := omega) only [allW, Nat.reduceLT, ↓reduceIte, hn]
    exact hend _ _ (decide (ba = bb)) hs2 (by simp only [n_put, hn]) (by simp only [get_put, ↓reduceIte]) ⟨fun h => .mk (fun h => by omega) (fun _ => of_decide_eq_true h) (fun h => by omega) (fun h => by omega) (fun h => by omega) (fun h => by omega) (fun h => by omega), fun h => decide_eq_true (h.inv.2.2.1 (by omega))⟩
  by_cases c5 : k = 5
  · simp (config := { maxSteps := 1000000, implicitDefEqProofs := false }) (disch := omega) only [allW, allR, evalAll, Nat.reduceLT, Nat.reduceEqDiff, Nat.reduceAdd, ↓reduceIte, hn, of0, of2, p0, q0, p2, q2, List.length_cons, List.length_nil, eq_false c1, eq_false c2, eq_false c3, eq_false c9, eq_false c4, eq_true c5]
    refine (equal_any hl1 s2 bv bw ba bb eb1 eb2).mono ?_
    rintro _ _ ⟨rfl, rfl⟩
    simp (config := { maxSteps := 1000000, implicitDefEqProofs := false }) (disch := omega) only [allW, Nat.reduceLT, ↓reduceIte, hn]
    exact hend _ _ (decide (ba = bb)) hs2 (by simp only [n_put, hn]) (by simp only [get_put, ↓reduceIte]) ⟨fun h => .mk (fun h => by omega) (fun _ => of_decide_eq_true h) (fun h => by omega) (fun h => by omega) (fun h => by omega) (fun h => by omega) (fun h => by omega), fun h => decide_eq_true (h.inv.2.2.1 (by omega))⟩
  by_cases c6 : k = 6
  · simp (config := { maxSteps := 1000000, implicitDefEqProofs := false }) (disch := omega) only [allW, allR, evalAll, Nat.reduceLT, Nat.reduceEqDiff, Nat.reduceAdd, ↓reduceIte, hn, of0, of3, p0, q0, p3, q3, List.length_cons, List.length_nil, eq_false c1, eq_false c2, eq_false c3, eq_false c9, eq_false c4, eq_false c5, eq_true c6]
    refine (eqfO hl2 55 s2 lv lw l.length l'.length lc lc' eL1 eL2 (by omega) (by omega) (fun i => ∀ (h : i < l.length) (h' : i < l'.length), SameO l[i] l'[i]) (fun i h => (rl.row i h).ok) (fun i h => (rl'.row i h).ok) (fun i h h' s' hs' => ?_)).mono ?_
    · have hss := hs2.trans (hs'.weaken hs2.next)
      refine (ih l[i] l'[i] (by have := O.items_lt (k := k) (n := n) (b := ba) (l := l) (d := d) (List.getElem_mem h); omega) F G s' _ _ ((rl.row i h).keeps hss) ((rl'.row i h').keeps hss) (x5 _ (List.getElem_mem h)) (y5 _ (List.getElem_mem h'))).mono ?_
      rintro _ s7 ⟨⟨t, rfl, ht⟩, hs7⟩
      exact ⟨⟨t, rfl, ⟨fun e _ _ => ht.1 e, fun e => ht.2 (e h h')⟩⟩, hs7⟩
    rintro _ s7 ⟨⟨t, rfl, ht⟩, hs7⟩
    simp (config := { maxSteps := 1000000, implicitDefEqProofs := false }) (disch := omega) only [allW, Nat.reduceLT, ↓reduceIte, hn]
    exact hend _ _ t (hs2.trans (hs7.weaken hs2.next)) (by simp only [n_put, hn]) (by simp only [get_put, ↓reduceIte]) ⟨fun e => .mk (fun h => by omega) (fun h => by omega) (fun _ => (ht.1 e).1) (fun _ i h h' => (ht.1 e).2 i h h h') (fun h => by omega) (fun h => by omega) (fun h => by omega), fun e => ht.2 ⟨e.inv.2.2.2.1 c6, fun i hi h h' => e.inv.2.2.2.2.1 c6 i h h'⟩⟩
  by_cases c7 : k = 7
  · have c8 : ¬ k = 8 := by omega
    simp (config := { maxSteps := 1000000, implicitDefEqProofs := false }) (disch := omega) only [allW, allR, evalAll, Nat.reduceLT, Nat.reduceEqDiff, Nat.reduceAdd, ↓reduceIte, hn, of0, of4, p0, q0, p4, q4, List.length_cons, List.length_nil, eq_false c1, eq_false c2, eq_false c3, eq_false c9, eq_false c4, eq_false c5, eq_false c6, eq_true c7]
    refine (eqfE hl3 72 s2 dv dw d.length d'.length dc dc' eD1 eD2 (by omega) (by omega) (fun i => ∀ (h : i < d.length) (h' : i < d'.length), d[i].1 = d'[i].1 ∧ SameO d[i].2 d'[i].2) (fun i h => entOk (rd.row i h)) (fun i h => entOk (rd'.row i h)) (fun i h h' s' hs' => ?_)).mono ?_
    · have hss := hs2.trans (hs'.weaken hs2.next)
      refine (alike_any hl4 s' F G _ _ d[i] d'[i] ((rd.row i h).keeps hss) ((rd'.row i h').keeps hss) (fun sx r1 r2 hsx o1 o2 => ih d[i].2 d'[i].2 (by have := O.ents_lt (k := k) (n := n) (b := ba) (l := l) (d := d) (List.getElem_mem h); omega) F G sx _ _ o1 o2 (x6 _ (List.getElem_mem h)) (y6 _ (List.getElem_mem h')))).mono ?_
      rintro _ s7 ⟨⟨t, rfl, ht⟩, hs7⟩
      exact ⟨⟨t, rfl, ⟨fun e _ _ => ht.1 e, fun e => ht.2 (e h h')⟩⟩, hs7⟩
    rintro _ s7 ⟨⟨t, rfl, ht⟩, hs7⟩
    have hs27 := hs2.trans (hs7.weaken hs2.next)
    have p7 : loadA Try.prog s7 3 (.pointer (some ⟨s.next, 0, some 6⟩)) = some (.int .i64 k) := (ht12.keeps hs7).load agInt (off := 0) (c := 6) rfl (by simp)
    have hfin : (t = true ↔ SameO (.mk k n ba l d) (.mk k n' bb l' d')) := ⟨fun e => .mk (fun h => by omega) (fun h => by omega) (fun h => by omega) (fun h => by omega) (fun _ => (ht.1 e).1) (fun _ i h h' => ((ht.1 e).2 i h h h').1) (fun _ i h h' => ((ht.1 e).2 i h h h').2), fun e => ht.2 ⟨e.inv.2.2.2.2.2.1 (by omega), fun i hi h h' => ⟨e.inv.2.2.2.2.2.2.1 (by omega) i h h', e.inv.2.2.2.2.2.2.2 (by omega) i h h'⟩⟩⟩
    cases t with
    | false =>
      simp (config := { maxSteps := 1000000, implicitDefEqProofs := false }) (disch := omega) only [allW, allR, Nat.reduceLT, Nat.reduceEqDiff, ↓reduceIte, undef, hn]
      exact hend _ _ false hs27 (by simp only [n_put, hn]) (by simp only [get_put, ↓reduceIte]) hfin
    | true =>
      simp (config := { maxSteps := 1000000, implicitDefEqProofs := false }) (disch := omega) only [allW, allR, Nat.reduceLT, Nat.reduceEqDiff, ↓reduceIte, undef, hn, of0, p7, eq_true c7]
      exact hend _ _ true hs27 (by simp only [n_put, hn]) (by simp only [get_put, ↓reduceIte]) hfin
  by_cases c8 : k = 8
  · simp (config := { maxSteps := 1000000, implicitDefEqProofs := false }) (disch := omega) only [allW, allR, evalAll, Nat.reduceLT, Nat.reduceEqDiff, Nat.reduceAdd, ↓reduceIte, hn, of0, of4, p0, q0, p4, q4, List.length_cons, List.length_nil, eq_false c1, eq_false c2, eq_false c3, eq_false c9, eq_false c4, eq_false c5, eq_false c6, eq_false c7, eq_true c8]
    refine (eqfE hl3 72 s2 dv dw d.length d'.length dc dc' eD1 eD2 (by omega) (by omega) (fun i => ∀ (h : i < d.length) (h' : i < d'.length), d[i].1 = d'[i].1 ∧ SameO d[i].2 d'[i].2) (fun i h => entOk (rd.row i h)) (fun i h => entOk (rd'.row i h)) (fun i h h' s' hs' => ?_)).mono ?_
    · have hss := hs2.trans (hs'.weaken hs2.next)
      refine (alike_any hl4 s' F G _ _ d[i] d'[i] ((rd.row i h).keeps hss) ((rd'.row i h').keeps hss) (fun sx r1 r2 hsx o1 o2 => ih d[i].2 d'[i].2 (by have := O.ents_lt (k := k) (n := n) (b := ba) (l := l) (d := d) (List.getElem_mem h); omega) F G sx _ _ o1 o2 (x6 _ (List.getElem_mem h)) (y6 _ (List.getElem_mem h')))).mono ?_
      rintro _ s7 ⟨⟨t, rfl, ht⟩, hs7⟩
      exact ⟨⟨t, rfl, ⟨fun e _ _ => ht.1 e, fun e => ht.2 (e h h')⟩⟩, hs7⟩
    rintro _ s7 ⟨⟨t, rfl, ht⟩, hs7⟩
    have hs27 := hs2.trans (hs7.weaken hs2.next)
    have hb7 := ht12.keeps hs7
    have hu7 := ht2.keeps hs7
    have p7 : loadA Try.prog s7 3 (.pointer (some ⟨s.next, 0, some 6⟩)) = some (.int .i64 k) := hb7.load agInt (off := 0) (c := 6) rfl (by simp)
    have p8 : loadA Try.prog s7 22 (.pointer (some ⟨s.next, 2, some 6⟩)) = some bv := hb7.load agSl (off := 2) (c := 6) rfl (by simp)
    have p9 : loadA Try.prog s7 22 (.pointer (some ⟨s1.next, 2, some 6⟩)) = some bw := hu7.load agSl (off := 2) (c := 6) rfl (by simp)
    cases t with
    | false =>
      simp (config := { maxSteps := 1000000, implicitDefEqProofs := false }) (disch := omega) only [allW, allR, Nat.reduceLT, Nat.reduceEqDiff, ↓reduceIte, undef, hn]
      exact hend _ _ false hs27 (by simp only [n_put, hn]) (by simp only [get_put, ↓reduceIte]) ⟨fun h => by (cases h), fun e => ht.2 ⟨e.inv.2.2.2.2.2.1 (by omega), fun i hi h h' => ⟨e.inv.2.2.2.2.2.2.1 (by omega) i h h', e.inv.2.2.2.2.2.2.2 (by omega) i h h'⟩⟩⟩
    | true =>
      have hT := ht.1 rfl
      simp (config := { maxSteps := 1000000, implicitDefEqProofs := false }) (disch := omega) only [allW, allR, evalAll, Nat.reduceLT, Nat.reduceEqDiff, ↓reduceIte, hn, of0, of2, p7, p8, p9, eq_false c7]
      refine (equal_any hl1 s7 bv bw ba bb (eb1.keeps hs7) (eb2.keeps hs7)).mono ?_
      rintro _ _ ⟨rfl, rfl⟩
      simp (config := { maxSteps := 1000000, implicitDefEqProofs := false }) (disch := omega) only [allW, allR, Nat.reduceLT, Nat.reduceEqDiff, ↓reduceIte, hn]
      exact hend _ _ (decide (ba = bb)) hs27 (by simp only [n_put, hn]) (by simp only [get_put, ↓reduceIte]) ⟨fun e => .mk (fun h => by omega) (fun _ => of_decide_eq_true e) (fun h => by omega) (fun h => by omega) (fun _ => hT.1) (fun _ i h h' => (hT.2 i h h h').1) (fun _ i h h' => (hT.2 i h h h').2), fun e => decide_eq_true (e.inv.2.2.1 (by omega))⟩
  simp (config := { maxSteps := 1000000, implicitDefEqProofs := false }) (disch := omega) only [allW, allR, wfn_ret, oneOf, Nat.reduceLT, Nat.reduceEqDiff, Nat.reduceAdd, ↓reduceIte, hn, of0, p0, q0, List.length_cons, List.length_nil, eq_false c1, eq_false c2, eq_false c3, eq_false c9, eq_false c4, eq_false c5, eq_false c6, eq_false c7, eq_false c8, Try.results55]
  exact ⟨.yes (.mk (fun h => by omega) (fun h => by omega) (fun h => by omega) (fun h => by omega) (fun h => by omega) (fun h => by omega) (fun h => by omega)), hs2⟩
end Go.Proofs.Ythlbahnfimigcaa
