/-
  Fonts in tables, the program: each code's glyph.
-/
import Derived.Test.YtpdkppimlcbhlaaSfC
set_option linter.unusedSimpArgs false
set_option linter.unusedVariables false
set_option maxRecDepth 100000
namespace Go.Proofs.Ytpdkppimlcbhlaa
open Go.Cl Go.Cl.Sf
theorem next_tab {X : List Nat} {s : ASt} {L : List (Nat × List UInt8)} (h : Tabs X s L) {i : Nat} {l : List UInt8} (hm : (i, l) ∈ L) {p : Nat} (hp : At s i p) (hpl : p < l.length) (hlen : l.length ≤ 4294967296) :
    Runs Try.prog libN 48 [cptr i] s fun v s' => v = .int .i64 ((l.getD p 0).toNat : Int) ∧ Tabs X s' L ∧ CTo (idsT L) s s' ∧ At s' i (p + 1) := by
  obtain ⟨b, hc, hb⟩ := hp.same (h.cur _ hm)
  refine (next_b (lib := libN) rfl rfl rfl rfl rfl i s i b l p hc (Nat.le_of_lt hc.1.lt) hlen).mono ?_
  rintro v s' ⟨rfl, h1, h2⟩
  refine ⟨?_, h.turn hm (h1.curs hb) (turns_cto h2), (turns_cto h2).mono (fun j hj => by rw [List.mem_singleton.mp hj]; exact List.mem_map_of_mem hm), b, ?_⟩
  · unfold byteAt; rw [if_pos (by omega), Int.toNat_natCast]
  · have := h1.1
    rw [Nat.min_eq_left (by omega)] at this
    exact this
theorem drop_take_snoc {c : List UInt8} {n k : Nat} (h : n + k < c.length) : (c.drop n).take (k + 1) = (c.drop n).take k ++ [c.getD (n + k) 0] := by
  rw [take_snoc (by rw [List.length_drop]; omega)]
  simp [List.getD, List.getElem?_drop]
/-- What codes leaves. -/
def CodIs (s : ASt) (q : Nat) (U G w : Value) (I : List Nat) (v : Value) (s' : ASt) : Except Nat (List Nat) → Prop
  | .error e => v = .int .i64 (e : Nat) ∧ CTo (q :: I) s s'
  | .ok m => v = .int .i64 0 ∧ CTo (q :: I) s s' ∧ ∃ g, Thing s' q [U, G, w, g] ∧ Own s' 1 g m.length (natsV m) ∧ Fresh s.next g
set_option maxHeartbeats 32000000 in
theorem codes_any (s : ASt) (X : List Nat) (q : Nat) (U : Value) (G : Nat) (w : Value) (L : List (Nat × List UInt8)) (i : Nat) (c : List UInt8) (p : Nat)
    (hT : Tabs X s L) (hm : (i, c) ∈ L) (hq : Thing s q [U, .int .i64 (G : Nat), w, .slice none 0 0]) (hqL : ∀ e ∈ L, e.1 < q) (hlen : c.length ≤ 100000000) (hp : p < 4294967296) :
    Runs Try.prog libN 40 [fptr q, tabV i, .int .i64 (p : Nat)] s fun v s' => CodIs s q U (.int .i64 (G : Nat)) w (idsT L) v s' (mapX G c p) := by
  refine Runs.enter 63 Try.func40 rfl rfl rfl rfl ?_
  intro f hn hf
  have h0 : f.get 0 = fptr q := hf 0
  have h1 : f.get 1 = tabV i := hf 1
  have h2 : f.get 2 = .int .i64 (p : Nat) := hf 2
  clear hf
  have hql := hq.lt
  have hqn : q ∉ idsT L := fun h => by
    obtain ⟨e, he, rfl⟩ := List.mem_map.mp h
    exact absurd (hqL e he) (Nat.lt_irrefl _)
  have hTlt := hT.lt
  have hmq : ∀ {s s' : ASt}, CTo (idsT L) s s' → CTo (q :: idsT L) s s' := fun h => h.mono (fun j hj => List.mem_cons_of_mem _ hj)
  have hd2 : [cptr i].length + 1 = 2 := rfl
  simp (config := { maxSteps := 1000000, implicitDefEqProofs := false }) (disch := omega) only [allW, allR, oneOf, evalAll, partsA, optA, Nat.reduceLT, Nat.reduceLeDiff, Nat.reduceEqDiff, Nat.reduceAdd, ↓reduceIte, hn, h0, h1, h2, szTab, tabCells]
  refine wstep_newPtr ?_
  intro s1 b4 hst1 hnx1
  obtain ⟨j4, hj4⟩ : ∃ j, j = s.next := ⟨_, rfl⟩
  have hT1 := hT.keeps hst1
  have hq1 := hq.keeps hst1
  have n4 : j4 ∉ idsT L := fun h => by have := hTlt _ h; omega
  rw [← hj4] at b4
  have l4 := b4.load (P := Try.prog) agCurP (off := 0) (c := 2) rfl (by simp)
  have hbad : ∀ (f : AFr) (s' : ASt), f.n = 63 → CTo (q :: idsT L) s s' → (c.length < p ∨ c.length - p < 262 ∨ half c p ≠ 0 ∨ half c (p + 2) ≠ 262) → f.get 6 = .int .i64 4 → wfn Try.prog (Try.f40).results.toList (fun v s' => CodIs s q U (.int .i64 (G : Nat)) w (idsT L) v s' (mapX G c p)) .ret f s' := by
    intro f s' hn hto hc h6
    have hr : mapX G c p = .error 4 := by unfold mapX; rw [if_pos hc]
    simp only [allW, allR, wfn_ret, wfn_normal, oneOf, evalAll, partsA, optA, Nat.reduceLT, Nat.reduceLeDiff, Nat.reduceEqDiff, Nat.reduceAdd, ↓reduceIte, hn, h6, hr, CodIs, Try.results40]
    exact ⟨rfl, hto⟩
  simp (config := { maxSteps := 1000000, implicitDefEqProofs := false }) (disch := omega) only [allW, allR, oneOf, evalAll, partsA, optA, Nat.reduceLT, Nat.reduceLeDiff, Nat.reduceEqDiff, Nat.reduceAdd, ↓reduceIte, hn, h0, h1, h2, hd2, ← hj4, sffld0, l4]
  refine (len_tab hT1 hm).mono ?_
  rintro _ s2 ⟨rfl, hs⟩; subst hs
  by_cases k1 : c.length < p
  · simp (config := { maxSteps := 1000000, implicitDefEqProofs := false }) (disch := omega) only [allW, allR, oneOf, evalAll, partsA, optA, Nat.reduceLT, Nat.reduceLeDiff, Nat.reduceEqDiff, Nat.reduceAdd, ↓reduceIte, undef, hn, h0, h1, h2, eq_true k1]
    exact hbad _ _ (by simp only [get_put, n_put, ↓reduceIte, Nat.reduceEqDiff, hn]) (CTo.ofStay hst1) (.inl k1) (by simp only [get_put, n_put, ↓reduceIte, Nat.reduceEqDiff])
  simp (config := { maxSteps := 1000000, implicitDefEqProofs := false }) (disch := omega) only [allW, allR, oneOf, evalAll, partsA, optA, Nat.reduceLT, Nat.reduceLeDiff, Nat.reduceEqDiff, Nat.reduceAdd, ↓reduceIte, undef, hn, h0, h1, h2, eq_false k1, sffld0, l4]
  refine (len_tab hT1 hm).mono ?_
  rintro _ s3 ⟨rfl, hs⟩; subst hs
  by_cases k2 : c.length - p < 262
  · have d2 : (c.length : Int) - (p : Int) < 262 := by omega
    simp (config := { maxSteps := 1000000, implicitDefEqProofs := false }) (disch := omega) only [allW, allR, oneOf, evalAll, partsA, optA, Nat.reduceLT, Nat.reduceLeDiff, Nat.reduceEqDiff, Nat.reduceAdd, ↓reduceIte, undef, hn, h0, h1, h2, eq_true d2, wrapI]
    exact hbad _ _ (by simp only [get_put, n_put, ↓reduceIte, Nat.reduceEqDiff, hn]) (CTo.ofStay hst1) (.inr (.inl k2)) (by simp only [get_put, n_put, ↓reduceIte, Nat.reduceEqDiff])
  have d2 : ¬ (c.length : Int) - (p : Int) < 262 := by omega
  have la3 : loadA Try.prog s3 55 (.pointer (some ⟨j4, 0, some 2⟩)) = some (tabV i) := Thing.loadAll (P := Try.prog) (cs := [cptr i]) agTab szTab b4 (c := 2) rfl
  simp (config := { maxSteps := 1000000, implicitDefEqProofs := false }) (disch := omega) only [allW, allR, oneOf, evalAll, partsA, optA, Nat.reduceLT, Nat.reduceLeDiff, Nat.reduceEqDiff, Nat.reduceAdd, ↓reduceIte, undef, hn, h0, h1, h2, eq_false d2, wrapI, la3]
  refine (half_tab hT1 hm _ (by omega)).mono ?_
  rintro _ s4 ⟨rfl, hT4, hto4⟩
  rw [numAt_half (n := p) (by omega)]
  by_cases k3 : half c p = 0
  rotate_left
  · have d3 : ((half c p : Nat) : Int) ≠ 0 := by omega
    simp (config := { maxSteps := 1000000, implicitDefEqProofs := false }) (disch := omega) only [allW, allR, oneOf, evalAll, partsA, optA, Nat.reduceLT, Nat.reduceLeDiff, Nat.reduceEqDiff, Nat.reduceAdd, ↓reduceIte, undef, hn, h0, h1, h2, eq_true d3, decide_eq_true d3, bin_neq]
    exact hbad _ _ (by simp only [get_put, n_put, ↓reduceIte, Nat.reduceEqDiff, hn]) ((CTo.ofStay hst1).trans (hmq hto4)) (.inr (.inr (.inl k3))) (by simp only [get_put, n_put, ↓reduceIte, Nat.reduceEqDiff])
  have b44 := b4.cto hto4 n4
  have la4 : loadA Try.prog s4 55 (.pointer (some ⟨j4, 0, some 2⟩)) = some (tabV i) := Thing.loadAll (P := Try.prog) (cs := [cptr i]) agTab szTab b44 (c := 2) rfl
  have d3 : ¬ ((half c p : Nat) : Int) ≠ 0 := by omega
  simp (config := { maxSteps := 1000000, implicitDefEqProofs := false }) (disch := omega) only [allW, allR, oneOf, evalAll, partsA, optA, Nat.reduceLT, Nat.reduceLeDiff, Nat.reduceEqDiff, Nat.reduceAdd, ↓reduceIte, undef, hn, h0, h1, h2, decide_eq_false d3, bin_neq, la4, wrapI]
  refine (half_tab hT4 hm _ (by omega)).mono ?_
  rintro _ s5 ⟨rfl, hT5, hto5⟩
  have e2 : numAt c ((p : Int) + 2) 2 = (half c (p + 2) : Nat) := by
    rw [show (p : Int) + 2 = ((p + 2 : Nat) : Int) by omega]; exact numAt_half (by omega)
  rw [e2]
  by_cases k4 : half c (p + 2) = 262
  rotate_left
  · have d4 : ((half c (p + 2) : Nat) : Int) ≠ 262 := by omega
    simp (config := { maxSteps := 1000000, implicitDefEqProofs := false }) (disch := omega) only [allW, allR, oneOf, evalAll, partsA, optA, Nat.reduceLT, Nat.reduceLeDiff, Nat.reduceEqDiff, Nat.reduceAdd, ↓reduceIte, undef, hn, h0, h1, h2, decide_eq_true d4, bin_neq]
    exact hbad _ _ (by simp only [get_put, n_put, ↓reduceIte, Nat.reduceEqDiff, hn]) (((CTo.ofStay hst1).trans (hmq hto4)).trans (hmq hto5)) (.inr (.inr (.inr k4))) (by simp only [get_put, n_put, ↓reduceIte, Nat.reduceEqDiff])
  have d4 : ¬ ((half c (p + 2) : Nat) : Int) ≠ 262 := by omega
  have b45 := b44.cto hto5 n4
  have l5 := b45.load (P := Try.prog) agCurP (off := 0) (c := 2) rfl (by simp)
  simp (config := { maxSteps := 1000000, implicitDefEqProofs := false }) (disch := omega) only [allW, allR, oneOf, evalAll, partsA, optA, Nat.reduceLT, Nat.reduceLeDiff, Nat.reduceEqDiff, Nat.reduceAdd, ↓reduceIte, undef, hn, h0, h1, h2, decide_eq_false d4, bin_neq, wrapI, sffld0, l5]
  refine (seek_tab hT5 hm _).mono ?_
  rintro _ s6 ⟨rfl, hT6, hto6, hat6⟩
  have hat := hat6 (by omega)
  rw [show ((p : Int) + 262 - 256).toNat = p + 6 by omega] at hat
  have b46 := b45.cto hto6 n4
  have hq6 := ((hq1.cto hto4 hqn).cto hto5 hqn).cto hto6 hqn
  have hto : CTo (q :: idsT L) s s6 := (((CTo.ofStay hst1).trans (hmq hto4)).trans (hmq hto5)).trans (hmq hto6)
  have hif : mapX G c p = if ((c.drop (p + 6)).take 256).all (fun x => decide (x.toNat < G)) then .ok (((c.drop (p + 6)).take 256).map (·.toNat)) else .error 4 := by
    unfold mapX; rw [if_neg]; simp [k1, k2, k3, k4]
  simp (config := { maxSteps := 1000000, implicitDefEqProofs := false }) (disch := omega) only [allW, allR, oneOf, evalAll, partsA, optA, Nat.reduceLT, Nat.reduceLeDiff, Nat.reduceEqDiff, Nat.reduceAdd, ↓reduceIte, undef, hn, h0, h1, h2]
  have hnx := hto.next
  refine Comes.loopAt (fun z f t => ∃ (k : Nat) (g : Value), z = 256 - k ∧ k ≤ 256 ∧ Tabs X t L ∧ At t i (p + 6 + k) ∧ Thing t q [U, .int .i64 (G : Nat), w, g] ∧ Own t 1 g k (natsV (((c.drop (p + 6)).take k).map (·.toNat))) ∧ Fresh s6.next g ∧ s6.next ≤ t.next ∧ ((c.drop (p + 6)).take k).all (fun x => decide (x.toNat < G)) = true ∧ Thing t j4 [cptr i] ∧ CTo (q :: idsT L) s t ∧ f.n = 63 ∧ f.get 0 = fptr q ∧ f.get 4 = .pointer (some ⟨j4, 0, some 2⟩) ∧ f.get 40 = .int .i64 (k : Nat))
    ⟨0, .slice none 0 0, rfl, by omega, hT6, hat, hq6, .nil, Fresh.nil _, Nat.le_refl _, rfl, b46, hto, by simp only [get_put, n_put, ↓reduceIte, Nat.reduceEqDiff, hn], by simp only [get_put, n_put, ↓reduceIte, Nat.reduceEqDiff, h0], by simp only [get_put, n_put, ↓reduceIte, Nat.reduceEqDiff], by simp only [get_put, n_put, ↓reduceIte, Nat.reduceEqDiff]; rfl⟩ ?_
  have hjl := b46.lt
  clear hn h0 h1 h2 f hT6 hat hq6 b46 hto
  rintro z f t ⟨k, g, rfl, hk, hTt, hat, hqt, hg, hgF, hnt, hall, b4t, hto, hn, h0, h4, h40⟩
  by_cases hlt : k < 256
  rotate_left
  · obtain rfl : k = 256 := by omega
    have d : ¬ ((256 : Nat) : Int) < 256 := by omega
    rw [if_pos hall] at hif
    simp (config := { maxSteps := 1000000, implicitDefEqProofs := false }) (disch := omega) only [allW, allR, wfn_ret, wfn_normal, oneOf, evalAll, partsA, optA, Nat.reduceLT, Nat.reduceLeDiff, Nat.reduceEqDiff, Nat.reduceAdd, ↓reduceIte, hn, h0, h4, h40, eq_false d, Try.results40]
    rw [hif]
    refine ⟨rfl, hto, g, hqt, ?_, fun i hi => by have := hgF i hi; omega⟩
    rw [List.length_map, List.length_take, List.length_drop, Nat.min_eq_left (by omega)]
    exact hg
  have d : (k : Int) < 256 := by omega
  have lt4 := b4t.load (P := Try.prog) agCurP (off := 0) (c := 2) rfl (by simp)
  simp (config := { maxSteps := 1000000, implicitDefEqProofs := false }) (disch := omega) only [allW, allR, oneOf, evalAll, partsA, optA, Nat.reduceLT, Nat.reduceLeDiff, Nat.reduceEqDiff, Nat.reduceAdd, ↓reduceIte, hn, h0, h4, h40, eq_true d, sffld0, lt4]
  refine (next_tab hTt hm hat (by omega) (by omega)).mono ?_
  rintro _ t1 ⟨rfl, hT1, hto1, hat1⟩
  obtain ⟨x, hx⟩ : ∃ x, x = c.getD (p + 6 + k) 0 := ⟨_, rfl⟩
  rw [← hx]
  have hq1 := hqt.cto hto1 hqn
  have b4u := b4t.cto hto1 n4
  have lq1 := hq1.load (P := Try.prog) agInt (off := 1) (c := 5) rfl (by simp)
  have hsn := drop_take_snoc (c := c) (n := p + 6) (k := k) (by omega)
  rw [← hx] at hsn
  by_cases k5 : G ≤ x.toNat
  · have hr : mapX G c p = .error 4 := by
      rw [hif, if_neg]
      intro h
      rw [List.all_eq_true] at h
      have h2 : x ∈ (c.drop (p + 6)).take (k + 1) := by rw [hsn]; simp
      have := h x (List.mem_of_mem_take (i := k + 1) (by rw [List.take_take, Nat.min_eq_left (by omega)]; exact h2))
      simp at this
      omega
    simp (config := { maxSteps := 1000000, implicitDefEqProofs := false }) (disch := omega) only [allW, allR, wfn_ret, wfn_normal, oneOf, evalAll, partsA, optA, Nat.reduceLT, Nat.reduceLeDiff, Nat.reduceEqDiff, Nat.reduceAdd, ↓reduceIte, hn, h0, h4, h40, ff0, mf1, Nat.add_zero, Nat.zero_add, lq1, eq_true k5, Try.results40]
    rw [hr]
    exact ⟨rfl, hto.trans (hmq hto1)⟩
  have hn1 := hto1.next
  have hgn : ∀ i, idOf g = some i → i ∉ idsT L := fun i hi hm => by have := hgF i hi; have := hTlt i hm; omega
  have hg1 := hg.cto hto1 hgn
  have lq3 := hq1.load (P := Try.prog) agInts (off := 3) (c := 5) rfl (by simp)
  simp (config := { maxSteps := 1000000, implicitDefEqProofs := false }) (disch := omega) only [allW, allR, oneOf, evalAll, partsA, optA, Nat.reduceLT, Nat.reduceLeDiff, Nat.reduceEqDiff, Nat.reduceAdd, ↓reduceIte, hn, h0, h4, h40, ff0, ff1, mf1, Nat.add_zero, Nat.zero_add, lq1, lq3, eq_false k5, build1 Try.underlying30 szInt zInt]
  refine wstep_append_lit Try.underlying30 szInt byInt zInt rfl hg1 (by simp only [get_put, n_put, ↓reduceIte, Nat.reduceEqDiff]) (by decide) (by simp only [get_put, n_put, ↓reduceIte, Nat.reduceEqDiff, hn]; decide) (by simp only [get_put, n_put, ↓reduceIte, Nat.reduceEqDiff, hn]; decide) (by rfl) (by decide) rfl (by omega) (by omega) hgF (by omega) ?_
  intro bs g' t2 hg2 hF2 hst2 hut2 hor
  have hgq : idOf g ≠ some q := fun e => by have := hgF _ e; omega
  have hg2q : idOf g' ≠ some q := fun e => by have := hF2 _ e; omega
  have hq2 := hq1.turns hut2 hgq
  simp (config := { maxSteps := 1000000, implicitDefEqProofs := false }) (disch := omega) only [allW, allR, oneOf, evalAll, partsA, optA, Nat.reduceLT, Nat.reduceLeDiff, Nat.reduceEqDiff, Nat.reduceAdd, ↓reduceIte, hn, h0, h4, h40, ff1, Nat.zero_add]
  refine wstep_store szInts hq2 (off := 3) (c := 5) rfl (by simp) hg2.sees.okCell ?_
  intro t3 hq3 hnx3 hot3
  have hn2 := hut2.next
  simp (config := { maxSteps := 1000000, implicitDefEqProofs := false }) (disch := omega) only [allW, allR, oneOf, evalAll, partsA, optA, Nat.reduceLT, Nat.reduceLeDiff, Nat.reduceEqDiff, Nat.reduceAdd, ↓reduceIte, hn, h0, h4, h40, wrapI]
  have hT3 : Tabs X t3 L := by
    refine hT1.stay (q := q) ⟨by omega, fun j hj => ?_⟩ hqL
    rw [hot3 j (by omega), hut2.get j (by omega) (fun e => by have := hgF _ e; omega)]
  have hat3 : At t3 i (p + 6 + k + 1) := by
    obtain ⟨b, hb⟩ := hat1
    have hiq : i < q := hqL _ hm
    exact ⟨b, (hb.turns hut2 (fun e => by have := hgF _ e; omega)).ofPut hnx3 hot3 (by omega)⟩
  have hto3 : CTo (q :: idsT L) s t3 := by
    have hc1 := hto.trans (hmq hto1)
    refine ⟨by have := hto.next; omega, fun j hj hn => ?_⟩
    rw [hot3 j (fun e => hn (e ▸ List.mem_cons_self ..)), hut2.get j (by have := hto.next; omega) (fun e => by have := hgF _ e; omega)]
    exact hc1.get j hj hn
  refine wround_next (256 - (k + 1)) (by omega) ⟨k + 1, g', rfl, by omega, hT3, hat3, hq3, ?_, hF2, by omega, ?_, (b4u.turns hut2 (fun e => by have := hgF _ e; omega)).ofPut hnx3 hot3 (by omega), hto3, by simp only [get_put, n_put, ↓reduceIte, Nat.reduceEqDiff, hn], by simp only [get_put, n_put, ↓reduceIte, Nat.reduceEqDiff, h0], by simp only [get_put, n_put, ↓reduceIte, Nat.reduceEqDiff, h4], by simp only [get_put, n_put, ↓reduceIte, Nat.reduceEqDiff]; rfl⟩
  · rw [hsn, List.map_append, List.map_cons, List.map_nil, natsV_snoc]
    exact hg2.ofPut hnx3 hot3 hg2q
  · rw [hsn, List.all_append, hall]
    simp; omega
end Go.Proofs.Ytpdkppimlcbhlaa
