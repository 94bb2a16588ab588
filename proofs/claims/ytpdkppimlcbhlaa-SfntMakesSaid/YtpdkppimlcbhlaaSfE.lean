/-
  Fonts in tables, the program: which table of codes; the whole font.
-/
import Derived.Test.YtpdkppimlcbhlaaSfD
set_option linter.unusedSimpArgs false
set_option linter.unusedVariables false
set_option maxRecDepth 100000
namespace Go.Proofs.Ytpdkppimlcbhlaa
open Go.Cl Go.Cl.Sf
theorem numAt_neg {b : List UInt8} {n : Int} {k : Nat} (h : ¬ (0 ≤ n ∧ n + k ≤ b.length)) : numAt b n k = -1 := by unfold numAt; rw [if_neg h]
set_option maxHeartbeats 32000000 in
theorem map0_any (s : ASt) (X : List Nat) (q : Nat) (U : Value) (G : Nat) (w : Value) (L : List (Nat × List UInt8)) (i : Nat) (c : List UInt8)
    (hT : Tabs X s L) (hm : (i, c) ∈ L) (hq : Thing s q [U, .int .i64 (G : Nat), w, .slice none 0 0]) (hqL : ∀ e ∈ L, e.1 < q) (hlen : c.length ≤ 100000000) :
    Runs Try.prog libN 20 [fptr q, tabV i] s fun v s' => CodIs s q U (.int .i64 (G : Nat)) w (idsT L) v s' (cmapX 8 G c) := by
  refine Runs.enter 47 Try.func20 rfl rfl rfl rfl ?_
  intro f hn hf
  have h0 : f.get 0 = fptr q := hf 0
  have h1 : f.get 1 = tabV i := hf 1
  clear hf
  have hql := hq.lt
  have hqn : q ∉ idsT L := fun h => by
    obtain ⟨e, he, rfl⟩ := List.mem_map.mp h
    exact absurd (hqL e he) (Nat.lt_irrefl _)
  have hTlt := hT.lt
  have hmq : ∀ {s s' : ASt}, CTo (idsT L) s s' → CTo (q :: idsT L) s s' := fun h => h.mono (fun j hj => List.mem_cons_of_mem _ hj)
  have hd2 : [cptr i].length + 1 = 2 := rfl
  simp (config := { maxSteps := 1000000, implicitDefEqProofs := false }) (disch := omega) only [allW, allR, oneOf, evalAll, partsA, optA, Nat.reduceLT, Nat.reduceLeDiff, Nat.reduceEqDiff, Nat.reduceAdd, ↓reduceIte, hn, h0, h1, szTab, tabCells]
  refine wstep_newPtr ?_
  intro s1 b3 hst1 hnx1
  obtain ⟨j3, hj3⟩ : ∃ j, j = s.next := ⟨_, rfl⟩
  have hT1 := hT.keeps hst1
  have hq1 := hq.keeps hst1
  have n3 : j3 ∉ idsT L := fun h => by have := hTlt _ h; omega
  rw [← hj3] at b3
  have la1 : loadA Try.prog s1 55 (.pointer (some ⟨j3, 0, some 2⟩)) = some (tabV i) := Thing.loadAll (P := Try.prog) (cs := [cptr i]) agTab szTab b3 (c := 2) rfl
  have hbad : ∀ (f : AFr) (s' : ASt), f.n = 47 → CTo (q :: idsT L) s s' → (c.length < 4 ∨ c.length < 4 + 8 * half c 2) → f.get 4 = .int .i64 4 → wfn Try.prog (Try.f20).results.toList (fun v s' => CodIs s q U (.int .i64 (G : Nat)) w (idsT L) v s' (cmapX 8 G c)) .ret f s' := by
    intro f s' hn hto hc h4
    have hr : cmapX 8 G c = .error 4 := by unfold cmapX; rw [if_pos hc]
    simp only [allW, allR, wfn_ret, wfn_normal, oneOf, evalAll, partsA, optA, Nat.reduceLT, Nat.reduceLeDiff, Nat.reduceEqDiff, Nat.reduceAdd, ↓reduceIte, hn, h4, hr, CodIs, Try.results20]
    exact ⟨rfl, hto⟩
  simp (config := { maxSteps := 1000000, implicitDefEqProofs := false }) (disch := omega) only [allW, allR, oneOf, evalAll, partsA, optA, Nat.reduceLT, Nat.reduceLeDiff, Nat.reduceEqDiff, Nat.reduceAdd, ↓reduceIte, hn, h0, h1, hd2, ← hj3, la1]
  refine (half_tab hT1 hm 2 (by omega)).mono ?_
  rintro _ s2 ⟨rfl, hT2, hto2⟩
  by_cases k1 : c.length < 4
  · rw [numAt_neg (n := 2) (k := 2) (by omega)]
    have dm : (-1 : Int) < 0 := by decide
    simp (config := { maxSteps := 1000000, implicitDefEqProofs := false }) (disch := omega) only [allW, allR, oneOf, evalAll, partsA, optA, Nat.reduceLT, Nat.reduceLeDiff, Nat.reduceEqDiff, Nat.reduceAdd, ↓reduceIte, undef, hn, h0, h1, eq_true dm]
    exact hbad _ _ (by simp only [get_put, n_put, ↓reduceIte, Nat.reduceEqDiff, hn]) ((CTo.ofStay hst1).trans (hmq hto2)) (.inl k1) (by simp only [get_put, n_put, ↓reduceIte, Nat.reduceEqDiff])
  rw [show numAt c 2 2 = (half c 2 : Nat) from numAt_half (n := 2) (by omega)]
  obtain ⟨M, hM⟩ : ∃ n, n = half c 2 := ⟨_, rfl⟩
  have hMl : M < 65536 := hM ▸ half_lt c 2
  rw [← hM] at hbad ⊢
  have b32 := b3.cto hto2 n3
  have hq2 := hq1.cto hto2 hqn
  have l2 := b32.load (P := Try.prog) agCurP (off := 0) (c := 2) rfl (by simp)
  have d1 : ¬ (M : Int) < 0 := by omega
  simp (config := { maxSteps := 1000000, implicitDefEqProofs := false }) (disch := omega) only [allW, allR, oneOf, evalAll, partsA, optA, Nat.reduceLT, Nat.reduceLeDiff, Nat.reduceEqDiff, Nat.reduceAdd, ↓reduceIte, undef, hn, h0, h1, eq_false d1, sffld0, l2]
  refine (len_tab hT2 hm).mono ?_
  rintro _ s3 ⟨rfl, hs⟩; subst hs
  by_cases k2 : c.length < 4 + 8 * M
  · have d2 : (c.length : Int) < 4 + 8 * (M : Int) := by omega
    simp (config := { maxSteps := 1000000, implicitDefEqProofs := false }) (disch := omega) only [allW, allR, oneOf, evalAll, partsA, optA, Nat.reduceLT, Nat.reduceLeDiff, Nat.reduceEqDiff, Nat.reduceAdd, ↓reduceIte, undef, hn, h0, h1, eq_true d2, wrapI]
    exact hbad _ _ (by simp only [get_put, n_put, ↓reduceIte, Nat.reduceEqDiff, hn]) ((CTo.ofStay hst1).trans (hmq hto2)) (.inr k2) (by simp only [get_put, n_put, ↓reduceIte, Nat.reduceEqDiff])
  have d2 : ¬ (c.length : Int) < 4 + 8 * (M : Int) := by omega
  have hif : cmapX 8 G c = cmapF 8 G c M 0 := by unfold cmapX; rw [← hM, if_neg (by simp [k1, k2])]
  simp (config := { maxSteps := 1000000, implicitDefEqProofs := false }) (disch := omega) only [allW, allR, oneOf, evalAll, partsA, optA, Nat.reduceLT, Nat.reduceLeDiff, Nat.reduceEqDiff, Nat.reduceAdd, ↓reduceIte, undef, hn, h0, h1, eq_false d2, wrapI]
  refine Comes.loopAt (fun z f t => ∃ k : Nat, z = M - k ∧ k ≤ M ∧ Tabs X t L ∧ Thing t q [U, .int .i64 (G : Nat), w, .slice none 0 0] ∧ Thing t j3 [cptr i] ∧ CTo (idsT L) s t ∧ cmapX 8 G c = cmapF 8 G c (M - k) k ∧ f.n = 47 ∧ f.get 0 = fptr q ∧ f.get 3 = .pointer (some ⟨j3, 0, some 2⟩) ∧ f.get 21 = .int .i64 (M : Nat) ∧ f.get 22 = .int .i64 (k : Nat))
    ⟨0, rfl, by omega, hT2, hq2, b32, (CTo.ofStay hst1).trans hto2, hif, by simp only [get_put, n_put, ↓reduceIte, Nat.reduceEqDiff, hn], by simp only [get_put, n_put, ↓reduceIte, Nat.reduceEqDiff, h0], by simp only [get_put, n_put, ↓reduceIte, Nat.reduceEqDiff], by simp only [get_put, n_put, ↓reduceIte, Nat.reduceEqDiff], by simp only [get_put, n_put, ↓reduceIte, Nat.reduceEqDiff]; rfl⟩ ?_
  clear hn h0 h1 f hT2 hq2 b32 hif
  rintro z f t ⟨k, rfl, hk, hTt, hqt, b3t, hto, hif, hn, h0, h3, h21, h22⟩
  by_cases hlt : k < M
  rotate_left
  · obtain rfl : k = M := by omega
    have d : ¬ (k : Int) < (k : Int) := by omega
    rw [Nat.sub_self, cmapF] at hif
    simp (config := { maxSteps := 1000000, implicitDefEqProofs := false }) (disch := omega) only [allW, allR, wfn_ret, wfn_normal, oneOf, evalAll, partsA, optA, Nat.reduceLT, Nat.reduceLeDiff, Nat.reduceEqDiff, Nat.reduceAdd, ↓reduceIte, hn, h0, h3, h21, h22, eq_false d, Try.results20]
    rw [hif]
    exact ⟨rfl, hmq hto⟩
  have d : (k : Int) < (M : Int) := by omega
  rw [show M - k = (M - (k + 1)) + 1 by omega, cmapF] at hif
  have lat : loadA Try.prog t 55 (.pointer (some ⟨j3, 0, some 2⟩)) = some (tabV i) := Thing.loadAll (P := Try.prog) (cs := [cptr i]) agTab szTab b3t (c := 2) rfl
  simp (config := { maxSteps := 1000000, implicitDefEqProofs := false }) (disch := omega) only [allW, allR, oneOf, evalAll, partsA, optA, Nat.reduceLT, Nat.reduceLeDiff, Nat.reduceEqDiff, Nat.reduceAdd, ↓reduceIte, hn, h0, h3, h21, h22, eq_true d, wrapI, lat]
  refine (half_tab hTt hm _ (by omega)).mono ?_
  rintro _ t1 ⟨rfl, hT1, hto1⟩
  rw [show numAt c (4 + 8 * (k : Int)) 2 = (half c (4 + 8 * k) : Nat) by rw [show (4 + 8 * (k : Int)) = ((4 + 8 * k : Nat) : Int) by omega]; exact numAt_half (by omega)]
  have hq1 := hqt.cto hto1 hqn
  have b31 := b3t.cto hto1 n3
  have hto1' := hto.trans hto1
  by_cases c1 : half c (4 + 8 * k) = 1
  rotate_left
  · have d1 : ¬ ((half c (4 + 8 * k) : Nat) : Int) = 1 := by omega
    rw [if_neg (fun h => c1 h.1)] at hif
    simp (config := { maxSteps := 1000000, implicitDefEqProofs := false }) (disch := omega) only [allW, allR, oneOf, evalAll, partsA, optA, Nat.reduceLT, Nat.reduceLeDiff, Nat.reduceEqDiff, Nat.reduceAdd, ↓reduceIte, undef, hn, h0, h3, h21, h22, eq_false d1, decide_eq_false d1, bin_eql, wrapI]
    exact wround_next (M - (k + 1)) (by omega) ⟨k + 1, rfl, by omega, hT1, hq1, b31, hto1', hif, by simp only [get_put, n_put, ↓reduceIte, Nat.reduceEqDiff, hn], by simp only [get_put, n_put, ↓reduceIte, Nat.reduceEqDiff, h0], by simp only [get_put, n_put, ↓reduceIte, Nat.reduceEqDiff, h3], by simp only [get_put, n_put, ↓reduceIte, Nat.reduceEqDiff, h21], by simp only [get_put, n_put, ↓reduceIte, Nat.reduceEqDiff]; rfl⟩
  have d1 : ((half c (4 + 8 * k) : Nat) : Int) = 1 := by omega
  have lat1 : loadA Try.prog t1 55 (.pointer (some ⟨j3, 0, some 2⟩)) = some (tabV i) := Thing.loadAll (P := Try.prog) (cs := [cptr i]) agTab szTab b31 (c := 2) rfl
  simp (config := { maxSteps := 1000000, implicitDefEqProofs := false }) (disch := omega) only [allW, allR, oneOf, evalAll, partsA, optA, Nat.reduceLT, Nat.reduceLeDiff, Nat.reduceEqDiff, Nat.reduceAdd, ↓reduceIte, undef, hn, h0, h3, h21, h22, decide_eq_true d1, bin_eql, wrapI, lat1]
  refine (half_tab hT1 hm _ (by omega)).mono ?_
  rintro _ t2 ⟨rfl, hT2, hto2⟩
  rw [show numAt c (4 + 8 * (k : Int) + 2) 2 = (half c (4 + 8 * k + 2) : Nat) by rw [show (4 + 8 * (k : Int) + 2) = ((4 + 8 * k + 2 : Nat) : Int) by omega]; exact numAt_half (by omega)]
  have hq2 := hq1.cto hto2 hqn
  have b32 := b31.cto hto2 n3
  have hto2' := hto1'.trans hto2
  by_cases c2 : half c (4 + 8 * k + 2) = 0
  rotate_left
  · have d2 : ¬ ((half c (4 + 8 * k + 2) : Nat) : Int) = 0 := by omega
    rw [if_neg (fun h => c2 h.2)] at hif
    simp (config := { maxSteps := 1000000, implicitDefEqProofs := false }) (disch := omega) only [allW, allR, oneOf, evalAll, partsA, optA, Nat.reduceLT, Nat.reduceLeDiff, Nat.reduceEqDiff, Nat.reduceAdd, ↓reduceIte, undef, hn, h0, h3, h21, h22, decide_eq_false d2, bin_eql, wrapI]
    exact wround_next (M - (k + 1)) (by omega) ⟨k + 1, rfl, by omega, hT2, hq2, b32, hto2', hif, by simp only [get_put, n_put, ↓reduceIte, Nat.reduceEqDiff, hn], by simp only [get_put, n_put, ↓reduceIte, Nat.reduceEqDiff, h0], by simp only [get_put, n_put, ↓reduceIte, Nat.reduceEqDiff, h3], by simp only [get_put, n_put, ↓reduceIte, Nat.reduceEqDiff, h21], by simp only [get_put, n_put, ↓reduceIte, Nat.reduceEqDiff]; rfl⟩
  have d2 : ((half c (4 + 8 * k + 2) : Nat) : Int) = 0 := by omega
  rw [if_pos ⟨c1, c2⟩] at hif
  simp (config := { maxSteps := 1000000, implicitDefEqProofs := false }) (disch := omega) only [allW, allR, oneOf, evalAll, partsA, optA, Nat.reduceLT, Nat.reduceLeDiff, Nat.reduceEqDiff, Nat.reduceAdd, ↓reduceIte, undef, hn, h0, h3, h21, h22, decide_eq_true d2, bin_eql, wrapI]
  refine LB.Drawn.looseK (fun j => decide (j = j3)) (fun j h => by have := of_decide_eq_true h; have := b32.lt; omega) 1 0 (by kernel_rfl) (by kernel_rfl) ?_
  rw [spare_zero]
  have hlj : LA.lowV (fun j => decide (j = j3)) (some (.pointer (some ⟨j3, 0, some 2⟩))) = true := LA.lowV_ptr _ (by simp)
  have hvt : ∀ i, valEq (tabV i) (tabV i) = true := fun i => by simp [valEq, valEqL, valEq1]
  have lat2 : loadA Try.prog t2 55 (.pointer (some ⟨j3, 0, some 2⟩)) = some (tabV i) := Thing.loadAll (P := Try.prog) (cs := [cptr i]) agTab szTab b32 (c := 2) rfl
  simp (config := { maxSteps := 1000000, implicitDefEqProofs := false }) (disch := omega) only [allW, allR, allL, allB, Nat.sub_self, Nat.add_one_sub_one, Nat.reduceSub, oneOf, evalAll, partsA, optA, Nat.reduceLT, Nat.reduceLeDiff, Nat.reduceEqDiff, Nat.reduceAdd, ↓reduceIte, undef, hn, h0, h3, h21, h22, lat2, hlj, hvt, valEq_pointer, valEq_int, wrapI]
  refine (full_tab hT2 hm _ (by omega)).mono ?_
  rintro _ t3 ⟨rfl, hT3, hto3⟩
  rw [show numAt c (4 + 8 * (k : Int) + 4) 4 = (word c (4 + 8 * k + 4) : Nat) by rw [show (4 + 8 * (k : Int) + 4) = ((4 + 8 * k + 4 : Nat) : Int) by omega]; exact numAt_word (by omega)]
  refine ⟨fun _ => ⟨hto3.next, fun j hj => by
    obtain rfl := of_decide_eq_true hj
    exact hto3.get _ b32.lt n3⟩, ?_⟩
  have hq3 := hq2.cto hto3 hqn
  have hto3' := hto2'.trans hto3
  refine (codes_any t3 X q U G w L i c (word c (4 + 8 * k + 4)) hT3 hm hq3 hqL hlen (word_lt c _)).mono ?_
  intro v t4 hv
  refine ⟨fun h => h.elim, ?_⟩
  have hvv : valEq v v = true := by
    revert hv
    cases mapX G c (word c (4 + 8 * k + 4)) with
    | error e => intro hv; rw [show v = _ from hv.1]; exact valEq_int _ _
    | ok m => intro hv; rw [show v = _ from hv.1]; exact valEq_int _ _
  rw [if_pos hvv]
  simp (config := { maxSteps := 1000000, implicitDefEqProofs := false }) (disch := omega) only [allW, allR, wfn_ret, wfn_normal, oneOf, evalAll, partsA, optA, Nat.reduceLT, Nat.reduceLeDiff, Nat.reduceEqDiff, Nat.reduceAdd, ↓reduceIte, undef, hn, Try.results20]
  rw [hif]
  cases hr : mapX G c (word c (4 + 8 * k + 4)) with
  | error e => rw [hr] at hv; exact ⟨hv.1, (hmq hto3').trans hv.2⟩
  | ok m =>
    rw [hr] at hv
    obtain ⟨h1, h2, g, h3, h4, h5⟩ := hv
    exact ⟨h1, (hmq hto3').trans h2, g, h3, h4, fun i hi => by have := h5 i hi; have := hto3'.next; omega⟩
end Go.Proofs.Ytpdkppimlcbhlaa
