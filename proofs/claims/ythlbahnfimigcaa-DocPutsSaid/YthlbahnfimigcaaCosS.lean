import Derived.Test.YthlbahnfimigcaaCosA
import Derived.Test.YthlbahnfimigcaaObjT
import Derived.Test.YthlbahnfimigcaaSame
set_option linter.unusedSimpArgs false
set_option linter.unusedVariables false
set_option maxRecDepth 100000
namespace Go.Proofs.Ythlbahnfimigcaa
open Go.Cl
def Told2 (s : ASt) (a b : O) (v : Value) (s' : ASt) : Prop := Answers (SameO a b) v ∧ Stay s.next s s'
set_option maxHeartbeats 8000000 in
theorem rsame_any {lib : Prims} (hl0 : lib.at 20 = none) (hl1 : lib.at 46 = none) : ∀ (N : Nat) (a b : O), SizeOf.sizeOf a ≤ N -> ∀ (F G : Nat -> Prop) (s : ASt) (ca cb : List Value), OIs F s ca a -> OIs G s cb b -> Small a -> Small b ->
  Runs Try.prog lib 20 [.agg ca.toArray, .agg cb.toArray] s (Told2 s a b) := by
 intro N
 induction N with
 | zero => intro o b h; cases o; simp at h
 | succ N ih =>
 intro a b hN F G s ca cb ha hb sa sb
 cases a with
 | mk k n ba l d =>
 cases b with
 | mk k' n' bb l' d' =>
 obtain ⟨bv, lv, dv, lc, dc, rfl, hb1, hL1, hD1, -, -, -, rl, rd⟩ := ha.parts
 obtain ⟨bw, lw, dw, lc', dc', rfl, hb2, hL2, hD2, -, -, -, rl', rd'⟩ := hb.parts
 cases sa with
 | mk x1 x2 x3 x4 x5 x6 =>
 cases sb with
 | mk y1 y2 y3 y4 y5 y6 =>
 refine Runs.enter 119 Try.func20 rfl hl0 rfl rfl ?_
 intro f hn hf
 have h0 : f.get 0 = .agg #[.int .i64 k, .int .i64 n, bv, lv, dv] := hf 0
 have h1 : f.get 1 = .agg #[.int .i64 k', .int .i64 n', bw, lw, dw] := hf 1
 clear hf
 simp -implicitDefEqProofs (disch := omega) only [allW, allR, oneOf, evalAll, partsA, optA, Nat.reduceLT, Nat.reduceLeDiff, Nat.reduceEqDiff, Nat.reduceAdd, ↓reduceIte, hn, h0, h1]
 refine wstep_newPtr ?_
 intro s1 ht1 hst1 hnx1
 simp -implicitDefEqProofs (disch := omega) only [allW, allR, oneOf, evalAll, partsA, optA, Nat.reduceLT, Nat.reduceLeDiff, Nat.reduceEqDiff, Nat.reduceAdd, ↓reduceIte, hn, h0, h1, List.length_cons, List.length_nil]
 refine wstep_newPtr ?_
 intro s2 ht2 hst2 hnx2
 have ht12 := ht1.keeps hst2
 have hs2 : Stay s.next s s2 := hst1.trans (hst2.weaken (by omega))
 have p0 : loadA Try.prog s2 3 (.pointer (some ⟨s.next, 0, some 6⟩)) = some (.int .i64 k) := ht12.load agInt (off := 0) (c := 6) rfl (by simp)
 have p1 : loadA Try.prog s2 2 (.pointer (some ⟨s.next, 1, some 6⟩)) = some (.int .i64 n) := ht12.load agI64 (off := 1) (c := 6) rfl (by simp)
 have p2 : loadA Try.prog s2 22 (.pointer (some ⟨s.next, 2, some 6⟩)) = some bv := ht12.load agSl (off := 2) (c := 6) rfl (by simp)
 have p3 : loadA Try.prog s2 23 (.pointer (some ⟨s.next, 3, some 6⟩)) = some lv := ht12.load agLs (off := 3) (c := 6) rfl (by simp)
 have p4 : loadA Try.prog s2 24 (.pointer (some ⟨s.next, 4, some 6⟩)) = some dv := ht12.load agDs (off := 4) (c := 6) rfl (by simp)
 have q0 : loadA Try.prog s2 3 (.pointer (some ⟨s1.next, 0, some 6⟩)) = some (.int .i64 k') := ht2.load agInt (off := 0) (c := 6) rfl (by simp)
 have q1 : loadA Try.prog s2 2 (.pointer (some ⟨s1.next, 1, some 6⟩)) = some (.int .i64 n') := ht2.load agI64 (off := 1) (c := 6) rfl (by simp)
 have q2 : loadA Try.prog s2 22 (.pointer (some ⟨s1.next, 2, some 6⟩)) = some bw := ht2.load agSl (off := 2) (c := 6) rfl (by simp)
 have q3 : loadA Try.prog s2 23 (.pointer (some ⟨s1.next, 3, some 6⟩)) = some lw := ht2.load agLs (off := 3) (c := 6) rfl (by simp)
 have q4 : loadA Try.prog s2 24 (.pointer (some ⟨s1.next, 4, some 6⟩)) = some dw := ht2.load agDs (off := 4) (c := 6) rfl (by simp)
 have eb1 := hb1.keeps hs2
 have eb2 := hb2.keeps hs2
 have eL1 := hL1.keeps hs2
 have eL2 := hL2.keeps hs2
 have eD1 := hD1.keeps hs2
 have eD2 := hD2.keeps hs2
 have hend : ∀ (f : AFr) (s6 : ASt) (t : Bool), Stay s.next s s6 -> f.n = 119 -> f.get 4 = .bool t -> (t = true ↔ SameO (.mk k n ba l d) (.mk k' n' bb l' d')) -> wfn Try.prog Try.f20.results.toList (Told2 s (.mk k n ba l d) (.mk k' n' bb l' d')) .ret f s6 := by
  intro f s6 t hs hn h4 ht
  simp -implicitDefEqProofs (disch := omega) only [allW, allR, wfn_ret, wfn_normal, oneOf, evalAll, partsA, optA, Nat.reduceLT, Nat.reduceLeDiff, Nat.reduceEqDiff, Nat.reduceAdd, ↓reduceIte, hn, h4, Try.results20]
  exact ⟨⟨t, rfl, ht⟩, hs⟩
 by_cases hk : k = k'
 rotate_left
 ·simp -implicitDefEqProofs (disch := omega) only [allW, allR, oneOf, evalAll, partsA, optA, Nat.reduceLT, Nat.reduceLeDiff, Nat.reduceEqDiff, Nat.reduceAdd, ↓reduceIte, undef, hn, h0, h1, of0, p0, q0, List.length_cons, List.length_nil, not_false_eq_true, eq_false hk]
  exact hend _ _ false hs2 (by simp only [get_put, n_put, ↓reduceIte, Nat.reduceEqDiff, hn]) (by simp only [get_put, n_put, ↓reduceIte, Nat.reduceEqDiff]) ⟨fun h => by (cases h), fun h => absurd h.inv.1 hk⟩
 subst hk
 by_cases c1 : k = 1
 ·simp -implicitDefEqProofs (disch := omega) only [allW, allR, oneOf, evalAll, partsA, optA, Nat.reduceLT, Nat.reduceLeDiff, Nat.reduceEqDiff, Nat.reduceAdd, ↓reduceIte, undef, hn, h0, h1, of0, of1, p0, q0, p1, q1, List.length_cons, List.length_nil, not_true_eq_false, hn, eq_true c1]
  exact hend _ _ (decide (n = n')) hs2 (by simp only [get_put, n_put, ↓reduceIte, Nat.reduceEqDiff, hn]) (by simp only [get_put, n_put, ↓reduceIte, Nat.reduceEqDiff]) ⟨fun h => .mk (fun _ => of_decide_eq_true h) (fun h => by omega) (fun h => by omega) (fun h => by omega) (fun h => by omega) (fun h => by omega) (fun h => by omega), fun h => decide_eq_true (h.inv.2.1 (by omega))⟩
 by_cases c2 : k = 2
 ·simp -implicitDefEqProofs (disch := omega) only [allW, allR, oneOf, evalAll, partsA, optA, Nat.reduceLT, Nat.reduceLeDiff, Nat.reduceEqDiff, Nat.reduceAdd, ↓reduceIte, undef, hn, h0, h1, of0, of1, p0, q0, p1, q1, List.length_cons, List.length_nil, not_true_eq_false, eq_false c1, eq_true c2]
  exact hend _ _ (decide (n = n')) hs2 (by simp only [get_put, n_put, ↓reduceIte, Nat.reduceEqDiff, hn]) (by simp only [get_put, n_put, ↓reduceIte, Nat.reduceEqDiff]) ⟨fun h => .mk (fun _ => of_decide_eq_true h) (fun h => by omega) (fun h => by omega) (fun h => by omega) (fun h => by omega) (fun h => by omega) (fun h => by omega), fun h => decide_eq_true (h.inv.2.1 (by omega))⟩
 by_cases c3 : k = 3
 ·simp -implicitDefEqProofs (disch := omega) only [allW, allR, oneOf, evalAll, partsA, optA, Nat.reduceLT, Nat.reduceLeDiff, Nat.reduceEqDiff, Nat.reduceAdd, ↓reduceIte, undef, hn, h0, h1, of0, of1, p0, q0, p1, q1, List.length_cons, List.length_nil, not_true_eq_false, eq_false c1, eq_false c2, eq_true c3]
  exact hend _ _ (decide (n = n')) hs2 (by simp only [get_put, n_put, ↓reduceIte, Nat.reduceEqDiff, hn]) (by simp only [get_put, n_put, ↓reduceIte, Nat.reduceEqDiff]) ⟨fun h => .mk (fun _ => of_decide_eq_true h) (fun h => by omega) (fun h => by omega) (fun h => by omega) (fun h => by omega) (fun h => by omega) (fun h => by omega), fun h => decide_eq_true (h.inv.2.1 (by omega))⟩
 by_cases c9 : k = 9
 ·simp -implicitDefEqProofs (disch := omega) only [allW, allR, oneOf, evalAll, partsA, optA, Nat.reduceLT, Nat.reduceLeDiff, Nat.reduceEqDiff, Nat.reduceAdd, ↓reduceIte, undef, hn, h0, h1, of0, of1, p0, q0, p1, q1, List.length_cons, List.length_nil, not_true_eq_false, eq_false c1, eq_false c2, eq_false c3, eq_true c9]
  exact hend _ _ (decide (n = n')) hs2 (by simp only [get_put, n_put, ↓reduceIte, Nat.reduceEqDiff, hn]) (by simp only [get_put, n_put, ↓reduceIte, Nat.reduceEqDiff]) ⟨fun h => .mk (fun _ => of_decide_eq_true h) (fun h => by omega) (fun h => by omega) (fun h => by omega) (fun h => by omega) (fun h => by omega) (fun h => by omega), fun h => decide_eq_true (h.inv.2.1 (by omega))⟩
 by_cases c4 : k = 4
 ·simp -implicitDefEqProofs (disch := omega) only [allW, allR, oneOf, evalAll, partsA, optA, Nat.reduceLT, Nat.reduceLeDiff, Nat.reduceEqDiff, Nat.reduceAdd, ↓reduceIte, undef, hn, h0, h1, of0, of2, p0, q0, p2, q2, List.length_cons, List.length_nil, not_true_eq_false, eq_false c1, eq_false c2, eq_false c3, eq_false c9, eq_true c4]
  refine (same_any hl1 s2 bv bw ba bb eb1 eb2 (by omega) (by omega)).mono ?_
  rintro _ _ ⟨rfl, rfl⟩
  simp -implicitDefEqProofs (disch := omega) only [allW, allR, oneOf, evalAll, partsA, optA, Nat.reduceLT, Nat.reduceLeDiff, Nat.reduceEqDiff, Nat.reduceAdd, ↓reduceIte, hn]
  exact hend _ _ (decide (ba = bb)) hs2 (by simp only [get_put, n_put, ↓reduceIte, Nat.reduceEqDiff, hn]) (by simp only [get_put, n_put, ↓reduceIte, Nat.reduceEqDiff]) ⟨fun h => .mk (fun h => by omega) (fun _ => of_decide_eq_true h) (fun h => by omega) (fun h => by omega) (fun h => by omega) (fun h => by omega) (fun h => by omega), fun h => decide_eq_true (h.inv.2.2.1 (by omega))⟩
 by_cases c5 : k = 5
 ·simp -implicitDefEqProofs (disch := omega) only [allW, allR, oneOf, evalAll, partsA, optA, Nat.reduceLT, Nat.reduceLeDiff, Nat.reduceEqDiff, Nat.reduceAdd, ↓reduceIte, undef, hn, h0, h1, of0, of2, p0, q0, p2, q2, List.length_cons, List.length_nil, not_true_eq_false, eq_false c1, eq_false c2, eq_false c3, eq_false c9, eq_false c4, eq_true c5]
  refine (same_any hl1 s2 bv bw ba bb eb1 eb2 (by omega) (by omega)).mono ?_
  rintro _ _ ⟨rfl, rfl⟩
  simp -implicitDefEqProofs (disch := omega) only [allW, allR, oneOf, evalAll, partsA, optA, Nat.reduceLT, Nat.reduceLeDiff, Nat.reduceEqDiff, Nat.reduceAdd, ↓reduceIte, hn]
  exact hend _ _ (decide (ba = bb)) hs2 (by simp only [get_put, n_put, ↓reduceIte, Nat.reduceEqDiff, hn]) (by simp only [get_put, n_put, ↓reduceIte, Nat.reduceEqDiff]) ⟨fun h => .mk (fun h => by omega) (fun _ => of_decide_eq_true h) (fun h => by omega) (fun h => by omega) (fun h => by omega) (fun h => by omega) (fun h => by omega), fun h => decide_eq_true (h.inv.2.2.1 (by omega))⟩
 by_cases c6 : k = 6
 ·by_cases cl : ((l.length : Nat) : Int) = ((l'.length : Nat) : Int)
  rotate_left
  ·simp -implicitDefEqProofs (disch := omega) only [allW, allR, oneOf, evalAll, partsA, optA, Nat.reduceLT, Nat.reduceLeDiff, Nat.reduceEqDiff, Nat.reduceAdd, ↓reduceIte, undef, hn, h0, h1, of0, of3, p0, q0, p3, q3, eL1.lenA Try.underlying23, eL2.lenA Try.underlying23, List.length_cons, List.length_nil, not_true_eq_false, not_false_eq_true, eq_false c1, eq_false c2, eq_false c3, eq_false c9, eq_false c4, eq_false c5, eq_true c6, eq_false cl]
   exact hend _ _ false hs2 (by simp only [get_put, n_put, ↓reduceIte, Nat.reduceEqDiff, hn]) (by simp only [get_put, n_put, ↓reduceIte, Nat.reduceEqDiff]) ⟨fun h => by (cases h), fun h => absurd (h.inv.2.2.2.1 c6) (by omega)⟩
  have hll : l.length = l'.length := by omega
  simp -implicitDefEqProofs (disch := omega) only [allW, allR, oneOf, evalAll, partsA, optA, Nat.reduceLT, Nat.reduceLeDiff, Nat.reduceEqDiff, Nat.reduceAdd, ↓reduceIte, undef, hn, h0, h1, of0, of3, p0, q0, p3, q3, eL1.lenA Try.underlying23, eL2.lenA Try.underlying23, List.length_cons, List.length_nil, not_true_eq_false, not_false_eq_true, eq_false c1, eq_false c2, eq_false c3, eq_false c9, eq_false c4, eq_false c5, eq_true c6, eq_true cl]
  refine Comes.loopOut (fun z f s6 => ∃ i : Nat, z = l.length - i ∧ i ≤ l.length ∧ (∀ j, j < i -> ∀ (h : j < l.length) (h' : j < l'.length), SameO l[j] l'[j]) ∧ Thing s6 s.next [.int .i64 k, .int .i64 n, bv, lv, dv] ∧ Thing s6 s1.next [.int .i64 k, .int .i64 n', bw, lw, dw] ∧ Stay s.next s s6 ∧ f.n = 119 ∧ f.get 2 = .pointer (some ⟨s.next, 0, some 6⟩) ∧ f.get 3 = .pointer (some ⟨s1.next, 0, some 6⟩) ∧ f.get 5 = .int .i64 (i : Nat))
   (fun z f s6 => (z = .ret ∧ Stay s.next s s6 ∧ f.n = 119 ∧ f.get 4 = .bool false ∧ ¬ SameO (.mk k n ba l d) (.mk k n' bb l' d')) ∨ (z = .exit 1 ∧ (∀ j, j < l.length -> ∀ (h : j < l.length) (h' : j < l'.length), SameO l[j] l'[j]) ∧ Stay s.next s s6 ∧ f.n = 119))
   ⟨0, rfl, by omega, fun j h => by omega, ht12, ht2, hs2, by simp only [get_put, n_put, ↓reduceIte, Nat.reduceEqDiff, hn], by simp only [get_put, n_put, ↓reduceIte, Nat.reduceEqDiff], by simp only [get_put, n_put, ↓reduceIte, Nat.reduceEqDiff], by simp only [get_put, n_put, ↓reduceIte, Nat.reduceEqDiff]; rfl⟩ ?_ ?_
  ·clear hend p0 p1 p2 p3 p4 q0 q1 q2 q3 q4 eb1 eb2 eL1 eL2 eD1 eD2 hn h0 h1 f
   rintro Q hQ z f s6 ⟨i, rfl, hi, hS, ht, hu, hs, hn, h2, h3, h5⟩
   have hL6 := hL1.keeps hs
   have hL7 := hL2.keeps hs
   have l6 : loadA Try.prog s6 23 (.pointer (some ⟨s.next, 3, some 6⟩)) = some lv := ht.load agLs (off := 3) (c := 6) rfl (by simp)
   have l7 : loadA Try.prog s6 23 (.pointer (some ⟨s1.next, 3, some 6⟩)) = some lw := hu.load agLs (off := 3) (c := 6) rfl (by simp)
   by_cases hlt : i < l.length
   rotate_left
   ·obtain rfl : i = l.length := by omega
    have d1 : ¬ ((l.length : Nat) : Int) < ((l.length : Nat) : Int) := by omega
    simp -implicitDefEqProofs (disch := omega) only [allW, allR, oneOf, evalAll, partsA, optA, Nat.reduceLT, Nat.reduceLeDiff, Nat.reduceEqDiff, Nat.reduceAdd, ↓reduceIte, hn, h2, h3, h5, of3, l6, hL6.lenA Try.underlying23, eq_false d1]
    exact hQ _ _ _ (.inr ⟨rfl, hS, hs, by simp only [get_put, n_put, ↓reduceIte, Nat.reduceEqDiff, hn]⟩)
   have hlt' : i < l'.length := by omega
   have d1 : (i : Int) < (l.length : Int) := by omega
   simp -implicitDefEqProofs (disch := omega) only [allW, allR, oneOf, evalAll, partsA, optA, Nat.reduceLT, Nat.reduceLeDiff, Nat.reduceEqDiff, Nat.reduceAdd, ↓reduceIte, hn, h2, h3, h5, of3, l6, hL6.lenA Try.underlying23, eq_true d1]
   obtain ⟨A, hA⟩ : ∃ A : Nat -> Bool, A = fun j => decide (j < s6.next) := ⟨_, rfl⟩
   have hAl : ∀ j, A j = true -> j < s6.next := by
    intro j h
    rw [hA] at h
    exact of_decide_eq_true h
   have hAo : ∀ j, j < s6.next -> A j = true := fun j h => by rw [hA]; exact decide_eq_true h
   refine LB.Drawn.looseK A hAl 0 0 (by kernel_rfl) (by kernel_rfl) ?_
   have hlow1 : ∀ k, LA.lowV A (some (.pointer (some ⟨s.next, k, some 6⟩))) = true := fun k => LA.lowV_ptr (A := A) (i := s.next) (hAo _ ht.lt)
   have hlow2 : ∀ k, LA.lowV A (some (.pointer (some ⟨s1.next, k, some 6⟩))) = true := fun k => LA.lowV_ptr (A := A) (i := s1.next) (hAo _ hu.lt)
   have hix := hL6.indexAddr (P := Try.prog) (k := .i64) (x := (i : Int)) Try.underlying23 szO (by omega) (by omega)
   have hiy := hL7.indexAddr (P := Try.prog) (k := .i64) (x := (i : Int)) Try.underlying23 szO (by omega) (by omega)
   rw [Int.toNat_natCast] at hix hiy
   have hld := hL6.loadAgg (P := Try.prog) agO szO hlt
   have hle := hL7.loadAgg (P := Try.prog) agO szO hlt'
   have ho1 := (rl.row i hlt).keeps hs
   have ho2 := (rl'.row i hlt').keeps hs
   simp -implicitDefEqProofs (disch := omega) only [allW, allR, allL, allB, Nat.sub_self, Nat.add_one_sub_one, Nat.reduceSub, oneOf, evalAll, partsA, optA, Nat.reduceLT, Nat.reduceLeDiff, Nat.reduceEqDiff, Nat.reduceAdd, ↓reduceIte, spare_zero, hn, h2, h3, h5, of3, hlow1, hlow2, l6, l7, hL6.self, hL7.self, hix, hiy, hld, hle, LA.lowV_elemOld hL6 hAo hlt, LA.lowV_elemOld hL7 hAo hlt', ho1.self, ho2.self]
   refine (ih l[i] l'[i] (by have := O.items_lt (k := k) (n := n) (b := ba) (l := l) (d := d) (List.getElem_mem hlt); omega) F G s6 _ _ ho1 ho2 (x5 _ (List.getElem_mem hlt)) (y5 _ (List.getElem_mem hlt'))).mono ?_
   rintro _ s7 ⟨⟨t, rfl, htt⟩, hs7⟩
   have hss := hs.trans (hs7.weaken hs.next)
   refine ⟨fun h => h.elim, ?_⟩
   cases t with
   | false =>
    simp -implicitDefEqProofs (disch := omega) only [allW, allR, allL, allB, Nat.sub_self, Nat.add_one_sub_one, Nat.reduceSub, oneOf, evalAll, partsA, optA, Nat.reduceLT, Nat.reduceLeDiff, Nat.reduceEqDiff, Nat.reduceAdd, ↓reduceIte, hn, h2, h3, h5]
    exact hQ _ _ _ (.inl ⟨rfl, hss, by simp only [get_put, n_put, ↓reduceIte, Nat.reduceEqDiff, hn], by simp only [get_put, n_put, ↓reduceIte, Nat.reduceEqDiff], fun h => by have := htt.2 (h.inv.2.2.2.2.1 c6 i hlt hlt'); cases this⟩)
   | true =>
    simp -implicitDefEqProofs (disch := omega) only [allW, allR, allL, allB, Nat.sub_self, Nat.add_one_sub_one, Nat.reduceSub, oneOf, evalAll, partsA, optA, Nat.reduceLT, Nat.reduceLeDiff, Nat.reduceEqDiff, Nat.reduceAdd, ↓reduceIte, hn, h2, h3, h5, wrapI]
    exact wround_next (l.length - (i + 1)) (by omega) ⟨i + 1, rfl, by omega, upto_next hS (fun _ _ => htt.1 rfl), ht.keeps hs7, hu.keeps hs7, hss, by simp only [get_put, n_put, ↓reduceIte, Nat.reduceEqDiff, hn], by simp only [get_put, n_put, ↓reduceIte, Nat.reduceEqDiff, h2], by simp only [get_put, n_put, ↓reduceIte, Nat.reduceEqDiff, h3], by simp only [get_put, n_put, ↓reduceIte, Nat.reduceEqDiff]; rfl⟩
  rintro z f' s6 (⟨rfl, hs, hn, h4, hne⟩ | ⟨rfl, hS, hs, hn⟩)
  ·simp -implicitDefEqProofs (disch := omega) only [allW, allR, oneOf, evalAll, partsA, optA, Nat.reduceLT, Nat.reduceLeDiff, Nat.reduceEqDiff, Nat.reduceAdd, ↓reduceIte]
   exact hend _ _ false hs hn h4 ⟨fun h => by (cases h), fun h => absurd h hne⟩
  simp -implicitDefEqProofs (disch := omega) only [allW, allR, wfn_ret, wfn_normal, oneOf, evalAll, partsA, optA, Nat.reduceLT, Nat.reduceLeDiff, Nat.reduceEqDiff, Nat.reduceAdd, ↓reduceIte, hn, Try.results20]
  exact ⟨.yes (.mk (fun h => by omega) (fun h => by omega) (fun _ => hll) (fun _ i h1 h2 => hS i h1 h1 h2) (fun h => by omega) (fun h => by omega) (fun h => by omega)), hs⟩
 by_cases c7 : k = 7
 ·by_cases cl : ((d.length : Nat) : Int) = ((d'.length : Nat) : Int)
  rotate_left
  ·simp -implicitDefEqProofs (disch := omega) only [allW, allR, oneOf, evalAll, partsA, optA, Nat.reduceLT, Nat.reduceLeDiff, Nat.reduceEqDiff, Nat.reduceAdd, ↓reduceIte, undef, hn, h0, h1, of0, of4, p0, q0, p4, q4, eD1.lenA Try.underlying24, eD2.lenA Try.underlying24, List.length_cons, List.length_nil, not_true_eq_false, not_false_eq_true, eq_false c1, eq_false c2, eq_false c3, eq_false c9, eq_false c4, eq_false c5, eq_false c6, eq_true c7, eq_false cl]
   exact hend _ _ false hs2 (by simp only [get_put, n_put, ↓reduceIte, Nat.reduceEqDiff, hn]) (by simp only [get_put, n_put, ↓reduceIte, Nat.reduceEqDiff]) ⟨fun h => by (cases h), fun h => absurd (h.inv.2.2.2.2.2.1 (by omega)) (by omega)⟩
  have hll : d.length = d'.length := by omega
  have hbb : k = 8 -> ba = bb := fun h => by omega
  have c8 : ¬ k = 8 := by omega
  simp -implicitDefEqProofs (disch := omega) only [allW, allR, oneOf, evalAll, partsA, optA, Nat.reduceLT, Nat.reduceLeDiff, Nat.reduceEqDiff, Nat.reduceAdd, ↓reduceIte, undef, hn, h0, h1, of0, of4, p0, q0, p4, q4, eD1.lenA Try.underlying24, eD2.lenA Try.underlying24, List.length_cons, List.length_nil, not_true_eq_false, not_false_eq_true, eq_false c1, eq_false c2, eq_false c3, eq_false c9, eq_false c4, eq_false c5, eq_false c6, eq_true c7, eq_true cl, eq_false c8]
  refine Comes.loopOut (fun z f s6 => ∃ i : Nat, z = d.length - i ∧ i ≤ d.length ∧ (∀ j, j < i -> ∀ (h : j < d.length) (h' : j < d'.length), d[j].1 = d'[j].1 ∧ SameO d[j].2 d'[j].2) ∧ Thing s6 s.next [.int .i64 k, .int .i64 n, bv, lv, dv] ∧ Thing s6 s1.next [.int .i64 k, .int .i64 n', bw, lw, dw] ∧ Stay s.next s s6 ∧ f.n = 119 ∧ f.get 2 = .pointer (some ⟨s.next, 0, some 6⟩) ∧ f.get 3 = .pointer (some ⟨s1.next, 0, some 6⟩) ∧ f.get 6 = .int .i64 (i : Nat))
   (fun z f s6 => (z = .ret ∧ Stay s.next s s6 ∧ f.n = 119 ∧ f.get 4 = .bool false ∧ ¬ SameO (.mk k n ba l d) (.mk k n' bb l' d')) ∨ (z = .exit 3 ∧ (∀ j, j < d.length -> ∀ (h : j < d.length) (h' : j < d'.length), d[j].1 = d'[j].1 ∧ SameO d[j].2 d'[j].2) ∧ Stay s.next s s6 ∧ f.n = 119))
   ⟨0, rfl, by omega, fun j h => by omega, ht12, ht2, hs2, by simp only [get_put, n_put, ↓reduceIte, Nat.reduceEqDiff, hn], by simp only [get_put, n_put, ↓reduceIte, Nat.reduceEqDiff], by simp only [get_put, n_put, ↓reduceIte, Nat.reduceEqDiff], by simp only [get_put, n_put, ↓reduceIte, Nat.reduceEqDiff]; rfl⟩ ?_ ?_
  ·clear hend p0 p1 p2 p3 p4 q0 q1 q2 q3 q4 eb1 eb2 eL1 eL2 eD1 eD2 hn h0 h1 f
   rintro Q hQ z f s6 ⟨i, rfl, hi, hS, ht, hu, hs, hn, h2, h3, h5⟩
   have hL6 := hD1.keeps hs
   have hL7 := hD2.keeps hs
   have l6 : loadA Try.prog s6 24 (.pointer (some ⟨s.next, 4, some 6⟩)) = some dv := ht.load agDs (off := 4) (c := 6) rfl (by simp)
   have l7 : loadA Try.prog s6 24 (.pointer (some ⟨s1.next, 4, some 6⟩)) = some dw := hu.load agDs (off := 4) (c := 6) rfl (by simp)
   by_cases hlt : i < d.length
   rotate_left
   ·obtain rfl : i = d.length := by omega
    have d1 : ¬ ((d.length : Nat) : Int) < ((d.length : Nat) : Int) := by omega
    simp -implicitDefEqProofs (disch := omega) only [allW, allR, oneOf, evalAll, partsA, optA, Nat.reduceLT, Nat.reduceLeDiff, Nat.reduceEqDiff, Nat.reduceAdd, ↓reduceIte, hn, h2, h3, h5, of4, l6, hL6.lenA Try.underlying24, eq_false d1]
    exact hQ _ _ _ (.inr ⟨rfl, hS, hs, by simp only [get_put, n_put, ↓reduceIte, Nat.reduceEqDiff, hn]⟩)
   have hlt' : i < d'.length := by omega
   have d1 : (i : Int) < (d.length : Int) := by omega
   simp -implicitDefEqProofs (disch := omega) only [allW, allR, oneOf, evalAll, partsA, optA, Nat.reduceLT, Nat.reduceLeDiff, Nat.reduceEqDiff, Nat.reduceAdd, ↓reduceIte, hn, h2, h3, h5, of4, l6, hL6.lenA Try.underlying24, eq_true d1]
   obtain ⟨A, hA⟩ : ∃ A : Nat -> Bool, A = fun j => decide (j < s6.next) := ⟨_, rfl⟩
   have hAl : ∀ j, A j = true -> j < s6.next := by
    intro j h
    rw [hA] at h
    exact of_decide_eq_true h
   have hAo : ∀ j, j < s6.next -> A j = true := fun j h => by rw [hA]; exact decide_eq_true h
   refine LB.Drawn.looseK A hAl 0 0 (by kernel_rfl) (by kernel_rfl) ?_
   have hlow1 : ∀ k, LA.lowV A (some (.pointer (some ⟨s.next, k, some 6⟩))) = true := fun k => LA.lowV_ptr (A := A) (i := s.next) (hAo _ ht.lt)
   have hlow2 : ∀ k, LA.lowV A (some (.pointer (some ⟨s1.next, k, some 6⟩))) = true := fun k => LA.lowV_ptr (A := A) (i := s1.next) (hAo _ hu.lt)
   have hix := hL6.indexAddr (P := Try.prog) (k := .i64) (x := (i : Int)) Try.underlying24 szE (by omega) (by omega)
   have hiy := hL7.indexAddr (P := Try.prog) (k := .i64) (x := (i : Int)) Try.underlying24 szE (by omega) (by omega)
   rw [Int.toNat_natCast] at hix hiy
   obtain ⟨u0, u1⟩ := efE hL6 hlt
   obtain ⟨w0, w1⟩ := efE hL7 hlt'
   obtain ⟨r1, e1, e2, e3⟩ := rd.row i hlt
   obtain ⟨r2, g1, g2, g3⟩ := rd'.row i hlt'
   obtain ⟨a1, a2⟩ := chunk6 e1
   obtain ⟨b1, b2⟩ := chunk6 g1
   have hlk := hL6.loadField (P := Try.prog) agStr hlt (j := 0) (by omega)
   rw [Nat.add_zero, a1] at hlk
   have hlv := hL6.loadPart (P := Try.prog) agO szO hlt (j := 1) (by omega)
   rw [a2] at hlv
   have hmk := hL7.loadField (P := Try.prog) agStr hlt' (j := 0) (by omega)
   rw [Nat.add_zero, b1] at hmk
   have hmv := hL7.loadPart (P := Try.prog) agO szO hlt' (j := 1) (by omega)
   rw [b2] at hmv
   have ho1 := e2.keeps hs
   have ho2 := g2.keeps hs
   have en := str_neq (P := Try.prog) (t := 9) d[i].1 d'[i].1
   by_cases ck : d[i].1 = d'[i].1
   rotate_left
   ·rw [decide_eq_true ck] at en
    simp -implicitDefEqProofs (disch := omega) only [allW, allR, allL, allB, Nat.sub_self, Nat.add_one_sub_one, Nat.reduceSub, oneOf, evalAll, partsA, optA, Nat.reduceLT, Nat.reduceLeDiff, Nat.reduceEqDiff, Nat.reduceAdd, ↓reduceIte, undef, spare_zero, hn, h2, h3, h5, of4, hlow1, hlow2, l6, l7, hL6.self, hL7.self, hix, hiy, u0, u1, w0, w1, hlk, hlv, hmk, hmv, bin_neq, en, valEq_string, valEq_plus, LA.lowV_plus hL6 hAo hlt, LA.lowV_plus hL7 hAo hlt', ho1.self, ho2.self]
    exact hQ _ _ _ (.inl ⟨rfl, hs, by simp only [get_put, n_put, ↓reduceIte, Nat.reduceEqDiff, hn], by simp only [get_put, n_put, ↓reduceIte, Nat.reduceEqDiff], fun h => ck (h.inv.2.2.2.2.2.2.1 (by omega) i hlt hlt')⟩)
   rw [decide_eq_false (not_not_intro ck)] at en
   simp -implicitDefEqProofs (disch := omega) only [allW, allR, allL, allB, Nat.sub_self, Nat.add_one_sub_one, Nat.reduceSub, oneOf, evalAll, partsA, optA, Nat.reduceLT, Nat.reduceLeDiff, Nat.reduceEqDiff, Nat.reduceAdd, ↓reduceIte, undef, spare_zero, hn, h2, h3, h5, of4, hlow1, hlow2, l6, l7, hL6.self, hL7.self, hix, hiy, u0, u1, w0, w1, hlk, hlv, hmk, hmv, bin_neq, en, valEq_string, valEq_plus, LA.lowV_plus hL6 hAo hlt, LA.lowV_plus hL7 hAo hlt', ho1.self, ho2.self]
   refine (ih d[i].2 d'[i].2 (by have := O.ents_lt (k := k) (n := n) (b := ba) (l := l) (d := d) (List.getElem_mem hlt); omega) F G s6 _ _ ho1 ho2 (x6 _ (List.getElem_mem hlt)) (y6 _ (List.getElem_mem hlt'))).mono ?_
   rintro _ s7 ⟨⟨t, rfl, htt⟩, hs7⟩
   have hss := hs.trans (hs7.weaken hs.next)
   refine ⟨fun h => h.elim, ?_⟩
   cases t with
   | false =>
    simp -implicitDefEqProofs (disch := omega) only [allW, allR, allL, allB, Nat.sub_self, Nat.add_one_sub_one, Nat.reduceSub, oneOf, evalAll, partsA, optA, Nat.reduceLT, Nat.reduceLeDiff, Nat.reduceEqDiff, Nat.reduceAdd, ↓reduceIte, undef, hn, h2, h3, h5]
    exact hQ _ _ _ (.inl ⟨rfl, hss, by simp only [get_put, n_put, ↓reduceIte, Nat.reduceEqDiff, hn], by simp only [get_put, n_put, ↓reduceIte, Nat.reduceEqDiff], fun h => by have := htt.2 (h.inv.2.2.2.2.2.2.2 (by omega) i hlt hlt'); cases this⟩)
   | true =>
    simp -implicitDefEqProofs (disch := omega) only [allW, allR, allL, allB, Nat.sub_self, Nat.add_one_sub_one, Nat.reduceSub, oneOf, evalAll, partsA, optA, Nat.reduceLT, Nat.reduceLeDiff, Nat.reduceEqDiff, Nat.reduceAdd, ↓reduceIte, undef, hn, h2, h3, h5, wrapI]
    exact wround_next (d.length - (i + 1)) (by omega) ⟨i + 1, rfl, by omega, upto_next hS (fun _ _ => ⟨ck, htt.1 rfl⟩), ht.keeps hs7, hu.keeps hs7, hss, by simp only [get_put, n_put, ↓reduceIte, Nat.reduceEqDiff, hn], by simp only [get_put, n_put, ↓reduceIte, Nat.reduceEqDiff, h2], by simp only [get_put, n_put, ↓reduceIte, Nat.reduceEqDiff, h3], by simp only [get_put, n_put, ↓reduceIte, Nat.reduceEqDiff]; rfl⟩
  rintro z f' s6 (⟨rfl, hs, hn, h4, hne⟩ | ⟨rfl, hS, hs, hn⟩)
  ·simp -implicitDefEqProofs (disch := omega) only [allW, allR, oneOf, evalAll, partsA, optA, Nat.reduceLT, Nat.reduceLeDiff, Nat.reduceEqDiff, Nat.reduceAdd, ↓reduceIte]
   exact hend _ _ false hs hn h4 ⟨fun h => by (cases h), fun h => absurd h hne⟩
  simp -implicitDefEqProofs (disch := omega) only [allW, allR, wfn_ret, wfn_normal, oneOf, evalAll, partsA, optA, Nat.reduceLT, Nat.reduceLeDiff, Nat.reduceEqDiff, Nat.reduceAdd, ↓reduceIte, hn, Try.results20]
  exact ⟨.yes (.mk (fun h => by omega) (fun h => hbb (by omega)) (fun h => by omega) (fun h => by omega) (fun _ => hll) (fun _ i h1 h2 => (hS i h1 h1 h2).1) (fun _ i h1 h2 => (hS i h1 h1 h2).2)), hs⟩
 by_cases c8 : k = 8
 ·by_cases cl : ((d.length : Nat) : Int) = ((d'.length : Nat) : Int)
  rotate_left
  ·simp -implicitDefEqProofs (disch := omega) only [allW, allR, oneOf, evalAll, partsA, optA, Nat.reduceLT, Nat.reduceLeDiff, Nat.reduceEqDiff, Nat.reduceAdd, ↓reduceIte, undef, hn, h0, h1, of0, of4, p0, q0, p4, q4, eD1.lenA Try.underlying24, eD2.lenA Try.underlying24, List.length_cons, List.length_nil, not_true_eq_false, not_false_eq_true, eq_false c1, eq_false c2, eq_false c3, eq_false c9, eq_false c4, eq_false c5, eq_false c6, eq_false c7, eq_true c8, eq_false cl]
   exact hend _ _ false hs2 (by simp only [get_put, n_put, ↓reduceIte, Nat.reduceEqDiff, hn]) (by simp only [get_put, n_put, ↓reduceIte, Nat.reduceEqDiff]) ⟨fun h => by (cases h), fun h => absurd (h.inv.2.2.2.2.2.1 (by omega)) (by omega)⟩
  have hll : d.length = d'.length := by omega
  simp -implicitDefEqProofs (disch := omega) only [allW, allR, oneOf, evalAll, partsA, optA, Nat.reduceLT, Nat.reduceLeDiff, Nat.reduceEqDiff, Nat.reduceAdd, ↓reduceIte, undef, hn, h0, h1, of0, of2, of4, p0, q0, p2, q2, p4, q4, eD1.lenA Try.underlying24, eD2.lenA Try.underlying24, List.length_cons, List.length_nil, not_true_eq_false, not_false_eq_true, eq_false c1, eq_false c2, eq_false c3, eq_false c9, eq_false c4, eq_false c5, eq_false c6, eq_false c7, eq_true c8, eq_true cl]
  refine (same_any hl1 s2 bv bw ba bb eb1 eb2 (by omega) (by omega)).mono ?_
  rintro _ _ ⟨rfl, rfl⟩
  by_cases hbe : ba = bb
  rotate_left
  ·rw [decide_eq_false hbe]
   simp -implicitDefEqProofs (disch := omega) only [allW, allR, oneOf, evalAll, partsA, optA, Nat.reduceLT, Nat.reduceLeDiff, Nat.reduceEqDiff, Nat.reduceAdd, ↓reduceIte, undef, hn]
   exact hend _ _ false hs2 (by simp only [get_put, n_put, ↓reduceIte, Nat.reduceEqDiff, hn]) (by simp only [get_put, n_put, ↓reduceIte, Nat.reduceEqDiff]) ⟨fun h => by (cases h), fun h => absurd (h.inv.2.2.1 (by omega)) hbe⟩
  have hbb : k = 8 -> ba = bb := fun _ => hbe
  rw [decide_eq_true hbe]
  simp -implicitDefEqProofs (disch := omega) only [allW, allR, oneOf, evalAll, partsA, optA, Nat.reduceLT, Nat.reduceLeDiff, Nat.reduceEqDiff, Nat.reduceAdd, ↓reduceIte, undef, hn]
  refine Comes.loopOut (fun z f s6 => ∃ i : Nat, z = d.length - i ∧ i ≤ d.length ∧ (∀ j, j < i -> ∀ (h : j < d.length) (h' : j < d'.length), d[j].1 = d'[j].1 ∧ SameO d[j].2 d'[j].2) ∧ Thing s6 s.next [.int .i64 k, .int .i64 n, bv, lv, dv] ∧ Thing s6 s1.next [.int .i64 k, .int .i64 n', bw, lw, dw] ∧ Stay s.next s s6 ∧ f.n = 119 ∧ f.get 2 = .pointer (some ⟨s.next, 0, some 6⟩) ∧ f.get 3 = .pointer (some ⟨s1.next, 0, some 6⟩) ∧ f.get 6 = .int .i64 (i : Nat))
   (fun z f s6 => (z = .ret ∧ Stay s.next s s6 ∧ f.n = 119 ∧ f.get 4 = .bool false ∧ ¬ SameO (.mk k n ba l d) (.mk k n' bb l' d')) ∨ (z = .exit 3 ∧ (∀ j, j < d.length -> ∀ (h : j < d.length) (h' : j < d'.length), d[j].1 = d'[j].1 ∧ SameO d[j].2 d'[j].2) ∧ Stay s.next s s6 ∧ f.n = 119))
   ⟨0, rfl, by omega, fun j h => by omega, ht12, ht2, hs2, by simp only [get_put, n_put, ↓reduceIte, Nat.reduceEqDiff, hn], by simp only [get_put, n_put, ↓reduceIte, Nat.reduceEqDiff], by simp only [get_put, n_put, ↓reduceIte, Nat.reduceEqDiff], by simp only [get_put, n_put, ↓reduceIte, Nat.reduceEqDiff]; rfl⟩ ?_ ?_
  ·clear hend p0 p1 p2 p3 p4 q0 q1 q2 q3 q4 eb1 eb2 eL1 eL2 eD1 eD2 hn h0 h1 f
   rintro Q hQ z f s6 ⟨i, rfl, hi, hS, ht, hu, hs, hn, h2, h3, h5⟩
   have hL6 := hD1.keeps hs
   have hL7 := hD2.keeps hs
   have l6 : loadA Try.prog s6 24 (.pointer (some ⟨s.next, 4, some 6⟩)) = some dv := ht.load agDs (off := 4) (c := 6) rfl (by simp)
   have l7 : loadA Try.prog s6 24 (.pointer (some ⟨s1.next, 4, some 6⟩)) = some dw := hu.load agDs (off := 4) (c := 6) rfl (by simp)
   by_cases hlt : i < d.length
   rotate_left
   ·obtain rfl : i = d.length := by omega
    have d1 : ¬ ((d.length : Nat) : Int) < ((d.length : Nat) : Int) := by omega
    simp -implicitDefEqProofs (disch := omega) only [allW, allR, oneOf, evalAll, partsA, optA, Nat.reduceLT, Nat.reduceLeDiff, Nat.reduceEqDiff, Nat.reduceAdd, ↓reduceIte, hn, h2, h3, h5, of4, l6, hL6.lenA Try.underlying24, eq_false d1]
    exact hQ _ _ _ (.inr ⟨rfl, hS, hs, by simp only [get_put, n_put, ↓reduceIte, Nat.reduceEqDiff, hn]⟩)
   have hlt' : i < d'.length := by omega
   have d1 : (i : Int) < (d.length : Int) := by omega
   simp -implicitDefEqProofs (disch := omega) only [allW, allR, oneOf, evalAll, partsA, optA, Nat.reduceLT, Nat.reduceLeDiff, Nat.reduceEqDiff, Nat.reduceAdd, ↓reduceIte, hn, h2, h3, h5, of4, l6, hL6.lenA Try.underlying24, eq_true d1]
   obtain ⟨A, hA⟩ : ∃ A : Nat -> Bool, A = fun j => decide (j < s6.next) := ⟨_, rfl⟩
   have hAl : ∀ j, A j = true -> j < s6.next := by
    intro j h
    rw [hA] at h
    exact of_decide_eq_true h
   have hAo : ∀ j, j < s6.next -> A j = true := fun j h => by rw [hA]; exact decide_eq_true h
   refine LB.Drawn.looseK A hAl 0 0 (by kernel_rfl) (by kernel_rfl) ?_
   have hlow1 : ∀ k, LA.lowV A (some (.pointer (some ⟨s.next, k, some 6⟩))) = true := fun k => LA.lowV_ptr (A := A) (i := s.next) (hAo _ ht.lt)
   have hlow2 : ∀ k, LA.lowV A (some (.pointer (some ⟨s1.next, k, some 6⟩))) = true := fun k => LA.lowV_ptr (A := A) (i := s1.next) (hAo _ hu.lt)
   have hix := hL6.indexAddr (P := Try.prog) (k := .i64) (x := (i : Int)) Try.underlying24 szE (by omega) (by omega)
   have hiy := hL7.indexAddr (P := Try.prog) (k := .i64) (x := (i : Int)) Try.underlying24 szE (by omega) (by omega)
   rw [Int.toNat_natCast] at hix hiy
   obtain ⟨u0, u1⟩ := efE hL6 hlt
   obtain ⟨w0, w1⟩ := efE hL7 hlt'
   obtain ⟨r1, e1, e2, e3⟩ := rd.row i hlt
   obtain ⟨r2, g1, g2, g3⟩ := rd'.row i hlt'
   obtain ⟨a1, a2⟩ := chunk6 e1
   obtain ⟨b1, b2⟩ := chunk6 g1
   have hlk := hL6.loadField (P := Try.prog) agStr hlt (j := 0) (by omega)
   rw [Nat.add_zero, a1] at hlk
   have hlv := hL6.loadPart (P := Try.prog) agO szO hlt (j := 1) (by omega)
   rw [a2] at hlv
   have hmk := hL7.loadField (P := Try.prog) agStr hlt' (j := 0) (by omega)
   rw [Nat.add_zero, b1] at hmk
   have hmv := hL7.loadPart (P := Try.prog) agO szO hlt' (j := 1) (by omega)
   rw [b2] at hmv
   have ho1 := e2.keeps hs
   have ho2 := g2.keeps hs
   have en := str_neq (P := Try.prog) (t := 9) d[i].1 d'[i].1
   by_cases ck : d[i].1 = d'[i].1
   rotate_left
   ·rw [decide_eq_true ck] at en
    simp -implicitDefEqProofs (disch := omega) only [allW, allR, allL, allB, Nat.sub_self, Nat.add_one_sub_one, Nat.reduceSub, oneOf, evalAll, partsA, optA, Nat.reduceLT, Nat.reduceLeDiff, Nat.reduceEqDiff, Nat.reduceAdd, ↓reduceIte, undef, spare_zero, hn, h2, h3, h5, of4, hlow1, hlow2, l6, l7, hL6.self, hL7.self, hix, hiy, u0, u1, w0, w1, hlk, hlv, hmk, hmv, bin_neq, en, valEq_string, valEq_plus, LA.lowV_plus hL6 hAo hlt, LA.lowV_plus hL7 hAo hlt', ho1.self, ho2.self]
    exact hQ _ _ _ (.inl ⟨rfl, hs, by simp only [get_put, n_put, ↓reduceIte, Nat.reduceEqDiff, hn], by simp only [get_put, n_put, ↓reduceIte, Nat.reduceEqDiff], fun h => ck (h.inv.2.2.2.2.2.2.1 (by omega) i hlt hlt')⟩)
   rw [decide_eq_false (not_not_intro ck)] at en
   simp -implicitDefEqProofs (disch := omega) only [allW, allR, allL, allB, Nat.sub_self, Nat.add_one_sub_one, Nat.reduceSub, oneOf, evalAll, partsA, optA, Nat.reduceLT, Nat.reduceLeDiff, Nat.reduceEqDiff, Nat.reduceAdd, ↓reduceIte, undef, spare_zero, hn, h2, h3, h5, of4, hlow1, hlow2, l6, l7, hL6.self, hL7.self, hix, hiy, u0, u1, w0, w1, hlk, hlv, hmk, hmv, bin_neq, en, valEq_string, valEq_plus, LA.lowV_plus hL6 hAo hlt, LA.lowV_plus hL7 hAo hlt', ho1.self, ho2.self]
   refine (ih d[i].2 d'[i].2 (by have := O.ents_lt (k := k) (n := n) (b := ba) (l := l) (d := d) (List.getElem_mem hlt); omega) F G s6 _ _ ho1 ho2 (x6 _ (List.getElem_mem hlt)) (y6 _ (List.getElem_mem hlt'))).mono ?_
   rintro _ s7 ⟨⟨t, rfl, htt⟩, hs7⟩
   have hss := hs.trans (hs7.weaken hs.next)
   refine ⟨fun h => h.elim, ?_⟩
   cases t with
   | false =>
    simp -implicitDefEqProofs (disch := omega) only [allW, allR, allL, allB, Nat.sub_self, Nat.add_one_sub_one, Nat.reduceSub, oneOf, evalAll, partsA, optA, Nat.reduceLT, Nat.reduceLeDiff, Nat.reduceEqDiff, Nat.reduceAdd, ↓reduceIte, undef, hn, h2, h3, h5]
    exact hQ _ _ _ (.inl ⟨rfl, hss, by simp only [get_put, n_put, ↓reduceIte, Nat.reduceEqDiff, hn], by simp only [get_put, n_put, ↓reduceIte, Nat.reduceEqDiff], fun h => by have := htt.2 (h.inv.2.2.2.2.2.2.2 (by omega) i hlt hlt'); cases this⟩)
   | true =>
    simp -implicitDefEqProofs (disch := omega) only [allW, allR, allL, allB, Nat.sub_self, Nat.add_one_sub_one, Nat.reduceSub, oneOf, evalAll, partsA, optA, Nat.reduceLT, Nat.reduceLeDiff, Nat.reduceEqDiff, Nat.reduceAdd, ↓reduceIte, undef, hn, h2, h3, h5, wrapI]
    exact wround_next (d.length - (i + 1)) (by omega) ⟨i + 1, rfl, by omega, upto_next hS (fun _ _ => ⟨ck, htt.1 rfl⟩), ht.keeps hs7, hu.keeps hs7, hss, by simp only [get_put, n_put, ↓reduceIte, Nat.reduceEqDiff, hn], by simp only [get_put, n_put, ↓reduceIte, Nat.reduceEqDiff, h2], by simp only [get_put, n_put, ↓reduceIte, Nat.reduceEqDiff, h3], by simp only [get_put, n_put, ↓reduceIte, Nat.reduceEqDiff]; rfl⟩
  rintro z f' s6 (⟨rfl, hs, hn, h4, hne⟩ | ⟨rfl, hS, hs, hn⟩)
  ·simp -implicitDefEqProofs (disch := omega) only [allW, allR, oneOf, evalAll, partsA, optA, Nat.reduceLT, Nat.reduceLeDiff, Nat.reduceEqDiff, Nat.reduceAdd, ↓reduceIte]
   exact hend _ _ false hs hn h4 ⟨fun h => by (cases h), fun h => absurd h hne⟩
  simp -implicitDefEqProofs (disch := omega) only [allW, allR, wfn_ret, wfn_normal, oneOf, evalAll, partsA, optA, Nat.reduceLT, Nat.reduceLeDiff, Nat.reduceEqDiff, Nat.reduceAdd, ↓reduceIte, hn, Try.results20]
  exact ⟨.yes (.mk (fun h => by omega) (fun h => hbb (by omega)) (fun h => by omega) (fun h => by omega) (fun _ => hll) (fun _ i h1 h2 => (hS i h1 h1 h2).1) (fun _ i h1 h2 => (hS i h1 h1 h2).2)), hs⟩
 simp -implicitDefEqProofs (disch := omega) only [allW, allR, wfn_ret, wfn_normal, oneOf, evalAll, partsA, optA, Nat.reduceLT, Nat.reduceLeDiff, Nat.reduceEqDiff, Nat.reduceAdd, ↓reduceIte, undef, hn, h0, h1, of0, p0, q0, List.length_cons, List.length_nil, not_true_eq_false, eq_false c1, eq_false c2, eq_false c3, eq_false c9, eq_false c4, eq_false c5, eq_false c6, eq_false c7, eq_false c8, Try.results20]
 exact ⟨.yes (.mk (fun h => by omega) (fun h => by omega) (fun h => by omega) (fun h => by omega) (fun h => by omega) (fun h => by omega) (fun h => by omega)), hs2⟩
end Go.Proofs.Ythlbahnfimigcaa