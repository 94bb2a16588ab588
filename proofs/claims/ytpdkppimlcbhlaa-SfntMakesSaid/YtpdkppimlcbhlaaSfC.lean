/-
  Fonts in tables, the program: how wide glyphs are.
-/
import Derived.Test.YtpdkppimlcbhlaaSfB
set_option linter.unusedSimpArgs false
set_option linter.unusedVariables false
set_option maxRecDepth 100000
namespace Go.Cl
/-- Numbers. -/
def natsV (l : List Nat) : List Value := l.map fun n : Nat => .int .i64 (n : Int)
theorem natsV_length (l : List Nat) : (natsV l).length = l.length := List.length_map ..
theorem natsV_snoc (l : List Nat) (n : Nat) : natsV (l ++ [n]) = natsV l ++ [.int .i64 (n : Int)] := by simp [natsV]
theorem natsV_ok (l : List Nat) : (natsV l).all okCell = true := by simp [natsV, okCell]
theorem natsV_getD {l : List Nat} {i : Nat} (h : i < l.length) : (natsV l).getD i undef = .int .i64 ((l.getD i 0 : Nat) : Int) := by
  simp [natsV, List.getD, List.getElem?_map, List.getElem?_eq_getElem h]
theorem valEq_nilp (v : Value) (h : ∃ i o c, v = .pointer (some ⟨i, o, c⟩)) : valEq v v = true := by
  obtain ⟨i, o, c, rfl⟩ := h
  exact valEq_pointer _
end Go.Cl
namespace Go.Proofs.Ytpdkppimlcbhlaa
open Go.Cl Go.Cl.Sf
theorem szInts : sizeB Try.prog 30 = some 1 := by kernel_rfl
theorem agInts : isAggB Try.prog 30 = some false := by kernel_rfl
abbrev fptr (q : Nat) : Value := .pointer (some ⟨q, 0, some 5⟩)
theorem fcells (a b c d : Value) : [a, b, c, d].length + 1 = 5 := rfl
theorem szMet : sizeB Try.prog 33 = some 3 := by kernel_rfl
theorem mf0 (i o c : Nat) : fieldAddrA Try.prog 33 (.pointer (some ⟨i, o, some c⟩)) 0 = some (.pointer (some ⟨i, o + 0, some c⟩)) := by
  unfold fieldAddrA; rw [Try.underlying33]; simp [szInt, szInts]
theorem mf1 (i o c : Nat) : fieldAddrA Try.prog 33 (.pointer (some ⟨i, o, some c⟩)) 1 = some (.pointer (some ⟨i, o + 1, some c⟩)) := by
  unfold fieldAddrA; rw [Try.underlying33]; simp [szInt, szInts]
theorem mf2 (i o c : Nat) : fieldAddrA Try.prog 33 (.pointer (some ⟨i, o, some c⟩)) 2 = some (.pointer (some ⟨i, o + 2, some c⟩)) := by
  unfold fieldAddrA; rw [Try.underlying33]; simp [szInt, szInts]
theorem ff0 (i o c : Nat) : fieldAddrA Try.prog 35 (.pointer (some ⟨i, o, some c⟩)) 0 = some (.pointer (some ⟨i, o + 0, some c⟩)) := by
  unfold fieldAddrA; rw [Try.underlying35]; simp [szMet, szInts]
theorem ff1 (i o c : Nat) : fieldAddrA Try.prog 35 (.pointer (some ⟨i, o, some c⟩)) 1 = some (.pointer (some ⟨i, o + 3, some c⟩)) := by
  unfold fieldAddrA; rw [Try.underlying35]; simp [szMet, szInts]
theorem Tabs.stay {X : List Nat} {s s' : ASt} {L : List (Nat × List UInt8)} (h : Tabs X s L) {q : Nat} (k : Stay q s s') (hq : ∀ e ∈ L, e.1 < q) : Tabs X s' L :=
  ⟨h.nd, fun e he => by
    obtain ⟨p, b, ⟨h1, low, z, h1b, h1c⟩, h2, h3, h4⟩ := h.cur e he
    have he' := hq e he
    exact ⟨p, b, ⟨Nat.lt_of_lt_of_le h1 k.next, low, z, (k.blk he').trans h1b, h1c⟩, h2.lowOf (base := q) (fun j hj => by have := (h4 j hj).1; omega) s' k, h3, h4⟩⟩
/-- What metrics leaves. -/
def MetIs (s : ASt) (X : List Nat) (q : Nat) (g : Value) (L : List (Nat × List UInt8)) (head hhea maxp hmtx : List UInt8) (v : Value) (s' : ASt) : Prop :=
  (badM head hhea maxp hmtx ∧ v = .bool false ∧ CTo (q :: idsT L) s s') ∨ (¬ badM head hhea maxp hmtx ∧ v = .bool true ∧ Tabs X s' L ∧ CTo (q :: idsT L) s s' ∧
    ∃ w, Thing s' q [.int .i64 (half head 18 : Nat), .int .i64 (half maxp 4 : Nat), w, g] ∧ Own s' 1 w (half hhea 34) (natsV ((List.range (half hhea 34)).map fun i => half hmtx (4 * i))) ∧ Fresh s.next w)
set_option maxHeartbeats 32000000 in
theorem metrics_any (s : ASt) (X : List Nat) (q : Nat) (g : Value) (L : List (Nat × List UInt8)) (i1 i2 i3 i4 : Nat) (head hhea maxp hmtx : List UInt8)
    (hT : Tabs X s L) (m1 : (i1, head) ∈ L) (m2 : (i2, hhea) ∈ L) (m3 : (i3, maxp) ∈ L) (m4 : (i4, hmtx) ∈ L) (hq : Thing s q [.int .i64 0, .int .i64 0, .slice none 0 0, g]) (hqL : ∀ e ∈ L, e.1 < q)
    (l1 : head.length ≤ 100000000) (l2 : hhea.length ≤ 100000000) (l3 : maxp.length ≤ 100000000) (l4 : hmtx.length ≤ 100000000) :
    Runs Try.prog libN 19 [fptr q, tabV i1, tabV i2, tabV i3, tabV i4] s (MetIs s X q g L head hhea maxp hmtx) := by
  refine Runs.enter 99 Try.func19 rfl rfl rfl rfl ?_
  intro f hn hf
  have h0 : f.get 0 = fptr q := hf 0
  have h1 : f.get 1 = tabV i1 := hf 1
  have h2 : f.get 2 = tabV i2 := hf 2
  have h3 : f.get 3 = tabV i3 := hf 3
  have h4 : f.get 4 = tabV i4 := hf 4
  clear hf
  have hql := hq.lt
  have hqn : q ∉ idsT L := fun h => by
    obtain ⟨e, he, rfl⟩ := List.mem_map.mp h
    exact absurd (hqL e he) (Nat.lt_irrefl _)
  simp (config := { maxSteps := 1000000, implicitDefEqProofs := false }) (disch := omega) only [allW, allR, oneOf, evalAll, partsA, optA, Nat.reduceLT, Nat.reduceLeDiff, Nat.reduceEqDiff, Nat.reduceAdd, ↓reduceIte, hn, h0, h1, h2, h3, h4, szTab, tabCells]
  refine wstep_newPtr ?_
  intro s1 b6 hst1 hnx1
  have hd2 : ∀ i, [cptr i].length + 1 = 2 := fun _ => rfl
  simp (config := { maxSteps := 1000000, implicitDefEqProofs := false }) (disch := omega) only [allW, allR, oneOf, evalAll, partsA, optA, Nat.reduceLT, Nat.reduceLeDiff, Nat.reduceEqDiff, Nat.reduceAdd, ↓reduceIte, hn, h0, h1, h2, h3, h4, szTab, tabCells, hd2]
  refine wstep_newPtr ?_
  intro s2 b7 hst2 hnx2
  simp (config := { maxSteps := 1000000, implicitDefEqProofs := false }) (disch := omega) only [allW, allR, oneOf, evalAll, partsA, optA, Nat.reduceLT, Nat.reduceLeDiff, Nat.reduceEqDiff, Nat.reduceAdd, ↓reduceIte, hn, h0, h1, h2, h3, h4, szTab, tabCells, hd2]
  refine wstep_newPtr ?_
  intro s3 b8 hst3 hnx3
  simp (config := { maxSteps := 1000000, implicitDefEqProofs := false }) (disch := omega) only [allW, allR, oneOf, evalAll, partsA, optA, Nat.reduceLT, Nat.reduceLeDiff, Nat.reduceEqDiff, Nat.reduceAdd, ↓reduceIte, hn, h0, h1, h2, h3, h4, szTab, tabCells, hd2]
  refine wstep_newPtr ?_
  intro s4 b9 hst4 hnx4
  have b6 := ((b6.keeps hst2).keeps hst3).keeps hst4
  have b7 := (b7.keeps hst3).keeps hst4
  have b8 := b8.keeps hst4
  have hst : Stay s.next s s4 := ((hst1.trans (hst2.weaken (by omega))).trans (hst3.weaken (by omega))).trans (hst4.weaken (by omega))
  have hT4 := hT.keeps hst
  have hq4 := hq.keeps hst
  obtain ⟨j6, hj6⟩ : ∃ j, j = s.next := ⟨_, rfl⟩
  obtain ⟨j7, hj7⟩ : ∃ j, j = s1.next := ⟨_, rfl⟩
  obtain ⟨j8, hj8⟩ : ∃ j, j = s2.next := ⟨_, rfl⟩
  obtain ⟨j9, hj9⟩ : ∃ j, j = s3.next := ⟨_, rfl⟩
  have c06 := b6.load (P := Try.prog) agCurP (off := 0) (c := 2) rfl (by simp)
  have c07 := b7.load (P := Try.prog) agCurP (off := 0) (c := 2) rfl (by simp)
  have c08 := b8.load (P := Try.prog) agCurP (off := 0) (c := 2) rfl (by simp)
  have hfail : ∀ (f : AFr) (s' : ASt), f.n = 99 → badM head hhea maxp hmtx → CTo (q :: idsT L) s s' → f.get 10 = .bool false → wfn Try.prog (Try.f19).results.toList (MetIs s X q g L head hhea maxp hmtx) .ret f s' := by
    intro f s' hn hb hto h10
    simp only [allW, allR, wfn_ret, wfn_normal, oneOf, evalAll, partsA, optA, Nat.reduceLT, Nat.reduceLeDiff, Nat.reduceEqDiff, Nat.reduceAdd, ↓reduceIte, hn, h10, Try.results19]
    exact .inl ⟨hb, rfl, hto⟩
  simp (config := { maxSteps := 1000000, implicitDefEqProofs := false }) (disch := omega) only [allW, allR, oneOf, evalAll, partsA, optA, Nat.reduceLT, Nat.reduceLeDiff, Nat.reduceEqDiff, Nat.reduceAdd, ↓reduceIte, undef, hn, h0, h1, h2, h3, h4, hd2, sffld0, c06]
  refine (len_tab hT4 m1).mono ?_
  rintro _ s5 ⟨rfl, hs⟩; subst hs
  by_cases k1 : head.length < 54
  · have d1 : (head.length : Int) < 54 := by omega
    simp (config := { maxSteps := 1000000, implicitDefEqProofs := false }) (disch := omega) only [allW, allR, oneOf, evalAll, partsA, optA, Nat.reduceLT, Nat.reduceLeDiff, Nat.reduceEqDiff, Nat.reduceAdd, ↓reduceIte, undef, hn, h0, h1, h2, h3, h4, eq_true d1]
    exact hfail _ _ (by simp only [get_put, n_put, ↓reduceIte, Nat.reduceEqDiff, hn]) (.inl k1) (CTo.ofStay hst) (by simp only [get_put, n_put, ↓reduceIte, Nat.reduceEqDiff])
  have d1 : ¬ (head.length : Int) < 54 := by omega
  simp (config := { maxSteps := 1000000, implicitDefEqProofs := false }) (disch := omega) only [allW, allR, oneOf, evalAll, partsA, optA, Nat.reduceLT, Nat.reduceLeDiff, Nat.reduceEqDiff, Nat.reduceAdd, ↓reduceIte, undef, hn, h0, h1, h2, h3, h4, eq_false d1, sffld0, c07]
  refine (len_tab hT4 m2).mono ?_
  rintro _ s6 ⟨rfl, hs⟩; subst hs
  by_cases k2 : hhea.length < 36
  · have d2 : (hhea.length : Int) < 36 := by omega
    simp (config := { maxSteps := 1000000, implicitDefEqProofs := false }) (disch := omega) only [allW, allR, oneOf, evalAll, partsA, optA, Nat.reduceLT, Nat.reduceLeDiff, Nat.reduceEqDiff, Nat.reduceAdd, ↓reduceIte, undef, hn, h0, h1, h2, h3, h4, eq_true d2]
    exact hfail _ _ (by simp only [get_put, n_put, ↓reduceIte, Nat.reduceEqDiff, hn]) (.inr (.inl k2)) (CTo.ofStay hst) (by simp only [get_put, n_put, ↓reduceIte, Nat.reduceEqDiff])
  have d2 : ¬ (hhea.length : Int) < 36 := by omega
  simp (config := { maxSteps := 1000000, implicitDefEqProofs := false }) (disch := omega) only [allW, allR, oneOf, evalAll, partsA, optA, Nat.reduceLT, Nat.reduceLeDiff, Nat.reduceEqDiff, Nat.reduceAdd, ↓reduceIte, undef, hn, h0, h1, h2, h3, h4, eq_false d2, sffld0, c08]
  refine (len_tab hT4 m3).mono ?_
  rintro _ s7 ⟨rfl, hs⟩; subst hs
  by_cases k3 : maxp.length < 6
  · have d3 : (maxp.length : Int) < 6 := by omega
    simp (config := { maxSteps := 1000000, implicitDefEqProofs := false }) (disch := omega) only [allW, allR, oneOf, evalAll, partsA, optA, Nat.reduceLT, Nat.reduceLeDiff, Nat.reduceEqDiff, Nat.reduceAdd, ↓reduceIte, undef, hn, h0, h1, h2, h3, h4, eq_true d3]
    exact hfail _ _ (by simp only [get_put, n_put, ↓reduceIte, Nat.reduceEqDiff, hn]) (.inr (.inr (.inl k3))) (CTo.ofStay hst) (by simp only [get_put, n_put, ↓reduceIte, Nat.reduceEqDiff])
  have d3 : ¬ (maxp.length : Int) < 6 := by omega
  have la7 : loadA Try.prog s7 55 (.pointer (some ⟨s1.next, 0, some 2⟩)) = some (tabV i2) := Thing.loadAll (P := Try.prog) (cs := [cptr i2]) agTab szTab b7 (c := 2) rfl
  simp (config := { maxSteps := 1000000, implicitDefEqProofs := false }) (disch := omega) only [allW, allR, oneOf, evalAll, partsA, optA, Nat.reduceLT, Nat.reduceLeDiff, Nat.reduceEqDiff, Nat.reduceAdd, ↓reduceIte, undef, hn, h0, h1, h2, h3, h4, eq_false d3, la7]
  refine (half_tab hT4 m2 34 (by omega)).mono ?_
  rintro _ t1 ⟨rfl, hT1, hto1⟩
  have e34 : numAt hhea 34 2 = (half hhea 34 : Nat) := numAt_half (n := 34) (by omega)
  have e18 : numAt head 18 2 = (half head 18 : Nat) := numAt_half (n := 18) (by omega)
  have e4 : numAt maxp 4 2 = (half maxp 4 : Nat) := numAt_half (n := 4) (by omega)
  rw [e34]
  have hTlt := hT.lt
  have n6 : j6 ∉ idsT L := fun h => by have := hTlt _ h; omega
  have n8 : j8 ∉ idsT L := fun h => by have := hTlt _ h; omega
  have n9 : j9 ∉ idsT L := fun h => by have := hTlt _ h; omega
  rw [← hj6] at b6
  rw [← hj8] at b8
  rw [← hj9] at b9
  have b6 := b6.cto hto1 n6
  have b8 := b8.cto hto1 n8
  have b9 := b9.cto hto1 n9
  have hq1 := hq4.cto hto1 hqn
  simp (config := { maxSteps := 1000000, implicitDefEqProofs := false }) (disch := omega) only [allW, allR, oneOf, evalAll, partsA, optA, Nat.reduceLT, Nat.reduceLeDiff, Nat.reduceEqDiff, Nat.reduceAdd, ↓reduceIte, undef, hn, h0, h1, h2, h3, h4, ← hj6, ← hj8, ← hj9]
  refine LB.Drawn.looseK (fun j => decide (j = j6 ∨ j = j8)) (fun j h => by have := of_decide_eq_true h; have := b6.lt; have := b8.lt; omega) 1 0 (by kernel_rfl) (by kernel_rfl) ?_
  rw [spare_zero]
  have hlw6 : LA.lowV (fun j => decide (j = j6 ∨ j = j8)) (some (.pointer (some ⟨j6, 0, some 2⟩))) = true := LA.lowV_ptr _ (by simp)
  have hlw8 : LA.lowV (fun j => decide (j = j6 ∨ j = j8)) (some (.pointer (some ⟨j8, 0, some 2⟩))) = true := LA.lowV_ptr _ (by simp)
  have hvt : ∀ i, valEq (tabV i) (tabV i) = true := fun i => by simp [valEq, valEqL, valEq1]
  have la6 : loadA Try.prog t1 55 (.pointer (some ⟨j6, 0, some 2⟩)) = some (tabV i1) := Thing.loadAll (P := Try.prog) (cs := [cptr i1]) agTab szTab b6 (c := 2) rfl
  simp (config := { maxSteps := 1000000, implicitDefEqProofs := false }) (disch := omega) only [allW, allR, allL, allB, Nat.sub_self, Nat.add_one_sub_one, Nat.reduceSub, oneOf, evalAll, partsA, optA, Nat.reduceLT, Nat.reduceLeDiff, Nat.reduceEqDiff, Nat.reduceAdd, ↓reduceIte, hn, h0, la6, hlw6, hvt, valEq_pointer]
  refine (half_tab hT1 m1 18 (by omega)).mono ?_
  rintro _ t2 ⟨rfl, hT2, hto2⟩
  rw [e18]
  refine ⟨fun _ => ⟨hto2.next, fun j hj => by
    rcases of_decide_eq_true hj with rfl | rfl
    · exact hto2.get _ b6.lt n6
    · exact hto2.get _ b8.lt n8⟩, ?_⟩
  have b8 := b8.cto hto2 n8
  have b9 := b9.cto hto2 n9
  have hq2 := hq1.cto hto2 hqn
  have la8 : loadA Try.prog t2 55 (.pointer (some ⟨j8, 0, some 2⟩)) = some (tabV i3) := Thing.loadAll (P := Try.prog) (cs := [cptr i3]) agTab szTab b8 (c := 2) rfl
  simp (config := { maxSteps := 1000000, implicitDefEqProofs := false }) (disch := omega) only [allW, allR, allL, allB, Nat.sub_self, Nat.add_one_sub_one, Nat.reduceSub, oneOf, evalAll, partsA, optA, Nat.reduceLT, Nat.reduceLeDiff, Nat.reduceEqDiff, Nat.reduceAdd, ↓reduceIte, hn, h0, la8, hlw8, hvt, valEq_pointer]
  refine (half_tab hT2 m3 4 (by omega)).mono ?_
  rintro _ t3 ⟨rfl, hT3, hto3⟩
  rw [e4]
  refine ⟨fun h => by simp at h, ?_⟩
  have b9 := b9.cto hto3 n9
  have hq3 := hq2.cto hto3 hqn
  simp (config := { maxSteps := 1000000, implicitDefEqProofs := false }) (disch := omega) only [allW, allR, allL, allB, Nat.sub_self, Nat.add_one_sub_one, Nat.reduceSub, oneOf, evalAll, partsA, optA, Nat.reduceLT, Nat.reduceLeDiff, Nat.reduceEqDiff, Nat.reduceAdd, ↓reduceIte, hn, h0, mf0, valEq_pointer, Nat.add_zero]
  refine LB.sstep_storeN szInt (by decide) hq3 (off := 0) (c := 5) rfl (vs := [.int .i64 (half head 18 : Nat)]) rfl rfl (by simp) rfl (fun h => by simp at h) ?_
  intro t4 hq4 hnx4 hot4
  simp (config := { maxSteps := 1000000, implicitDefEqProofs := false }) (disch := omega) only [allW, allR, allL, allB, Nat.sub_self, Nat.add_one_sub_one, Nat.reduceSub, oneOf, evalAll, partsA, optA, Nat.reduceLT, Nat.reduceLeDiff, Nat.reduceEqDiff, Nat.reduceAdd, ↓reduceIte, hn, h0, mf1, valEq_pointer, Nat.zero_add]
  refine LB.sstep_storeN szInt (by decide) hq4 (off := 1) (c := 5) rfl (vs := [.int .i64 (half maxp 4 : Nat)]) rfl rfl (by simp [over]) rfl (fun h => by simp at h) ?_
  intro t5 hq5 hnx5 hot5
  have hq5 : Thing t5 q [.int .i64 (half head 18 : Nat), .int .i64 (half maxp 4 : Nat), .slice none 0 0, g] := hq5
  have htoq : CTo [q] t3 t5 := (CTo.ofPut (I := [q]) hnx4 hot4 (List.mem_singleton.mpr rfl)).trans (CTo.ofPut (I := [q]) hnx5 hot5 (List.mem_singleton.mpr rfl))
  have hTq := hT3.cto htoq q (fun j hj => by rw [List.mem_singleton.mp hj]; exact Nat.le_refl _) hqL
  have hmq : ∀ {s s' : ASt}, CTo (idsT L) s s' → CTo (q :: idsT L) s s' := fun h => h.mono (fun j hj => List.mem_cons_of_mem _ hj)
  have hto : CTo (q :: idsT L) s t5 := ((((CTo.ofStay hst).trans (hmq hto1)).trans (hmq hto2)).trans (hmq hto3)).trans (htoq.mono (fun j hj => by rw [List.mem_singleton.mp hj]; exact List.mem_cons_self ..))
  have b9 := b9.cto htoq (fun h => by have := List.mem_singleton.mp h; omega)
  obtain ⟨U, hU⟩ : ∃ n, n = half head 18 := ⟨_, rfl⟩
  obtain ⟨G, hG⟩ : ∃ n, n = half maxp 4 := ⟨_, rfl⟩
  obtain ⟨N, hN⟩ : ∃ n, n = half hhea 34 := ⟨_, rfl⟩
  have hUl : U < 65536 := hU ▸ half_lt head 18
  have hGl : G < 65536 := hG ▸ half_lt maxp 4
  have hNl : N < 65536 := hN ▸ half_lt hhea 34
  rw [← hU, ← hG] at hq5
  have hbad : badM head hhea maxp hmtx ↔ (U < 16 ∨ 16384 < U ∨ N < 1 ∨ G < N ∨ hmtx.length < 4 * N + 2 * (G - N)) := by
    unfold badM
    rw [← hU, ← hG, ← hN]
    simp only [k1, k2, k3, false_or]
  simp (config := { maxSteps := 1000000, implicitDefEqProofs := false }) (disch := omega) only [allW, allR, allL, allB, Nat.sub_self, Nat.add_one_sub_one, Nat.reduceSub, oneOf, evalAll, partsA, optA, Nat.reduceLT, Nat.reduceLeDiff, Nat.reduceEqDiff, Nat.reduceAdd, ↓reduceIte, hn, h0, ← hU, ← hG, ← hN]
  refine LB.Drawn.looseK (fun j => decide (j = q ∨ j = j9)) (fun j h => by have := of_decide_eq_true h; have := hq5.lt; have := b9.lt; omega) 1 0 (by kernel_rfl) (by kernel_rfl) ?_
  rw [spare_zero]
  have hlq : ∀ o, LA.lowV (fun j => decide (j = q ∨ j = j9)) (some (.pointer (some ⟨q, o, some 5⟩))) = true := fun o => LA.lowV_ptr _ (by simp)
  have hlj : LA.lowV (fun j => decide (j = q ∨ j = j9)) (some (.pointer (some ⟨j9, 0, some 2⟩))) = true := LA.lowV_ptr _ (by simp)
  have lq0 := hq5.load (P := Try.prog) agInt (off := 0) (c := 5) rfl (by simp)
  have lq1 := hq5.load (P := Try.prog) agInt (off := 1) (c := 5) rfl (by simp)
  have lj9 := b9.load (P := Try.prog) agCurP (off := 0) (c := 2) rfl (by simp)
  by_cases a1 : U < 16
  · have b1 : (U : Int) < 16 := by omega
    simp (config := { maxSteps := 1000000, implicitDefEqProofs := false }) (disch := omega) only [allW, allR, allL, allB, Nat.sub_self, Nat.add_one_sub_one, Nat.reduceSub, oneOf, evalAll, partsA, optA, Nat.reduceLT, Nat.reduceLeDiff, Nat.reduceEqDiff, Nat.reduceAdd, ↓reduceIte, undef, hn, h0, mf0, mf1, mf2, hlq, hlj, valEq_pointer, valEq_int, valEq_bool, Nat.add_zero, Nat.zero_add, lq0, lq1, sffld0, lj9, wrapI, eq_true b1]
    exact hfail _ _ (by simp only [get_put, n_put, ↓reduceIte, Nat.reduceEqDiff, hn]) (hbad.mpr (.inl a1)) hto (by simp only [get_put, n_put, ↓reduceIte, Nat.reduceEqDiff])
  have b1 : ¬ (U : Int) < 16 := by omega
  by_cases a2 : 16384 < U
  · have b2 : (16384 : Int) < U := by omega
    simp (config := { maxSteps := 1000000, implicitDefEqProofs := false }) (disch := omega) only [allW, allR, allL, allB, Nat.sub_self, Nat.add_one_sub_one, Nat.reduceSub, oneOf, evalAll, partsA, optA, Nat.reduceLT, Nat.reduceLeDiff, Nat.reduceEqDiff, Nat.reduceAdd, ↓reduceIte, undef, hn, h0, mf0, mf1, mf2, hlq, hlj, valEq_pointer, valEq_int, valEq_bool, Nat.add_zero, Nat.zero_add, lq0, lq1, sffld0, lj9, wrapI, eq_false b1, eq_true b2]
    exact hfail _ _ (by simp only [get_put, n_put, ↓reduceIte, Nat.reduceEqDiff, hn]) (hbad.mpr (.inr (.inl a2))) hto (by simp only [get_put, n_put, ↓reduceIte, Nat.reduceEqDiff])
  have b2 : ¬ (16384 : Int) < U := by omega
  by_cases a3 : N < 1
  · have b3 : (N : Int) < 1 := by omega
    simp (config := { maxSteps := 1000000, implicitDefEqProofs := false }) (disch := omega) only [allW, allR, allL, allB, Nat.sub_self, Nat.add_one_sub_one, Nat.reduceSub, oneOf, evalAll, partsA, optA, Nat.reduceLT, Nat.reduceLeDiff, Nat.reduceEqDiff, Nat.reduceAdd, ↓reduceIte, undef, hn, h0, mf0, mf1, mf2, hlq, hlj, valEq_pointer, valEq_int, valEq_bool, Nat.add_zero, Nat.zero_add, lq0, lq1, sffld0, lj9, wrapI, eq_false b1, eq_false b2, eq_true b3]
    exact hfail _ _ (by simp only [get_put, n_put, ↓reduceIte, Nat.reduceEqDiff, hn]) (hbad.mpr (.inr (.inr (.inl a3)))) hto (by simp only [get_put, n_put, ↓reduceIte, Nat.reduceEqDiff])
  have b3 : ¬ (N : Int) < 1 := by omega
  by_cases a4 : G < N
  · simp (config := { maxSteps := 1000000, implicitDefEqProofs := false }) (disch := omega) only [allW, allR, allL, allB, Nat.sub_self, Nat.add_one_sub_one, Nat.reduceSub, oneOf, evalAll, partsA, optA, Nat.reduceLT, Nat.reduceLeDiff, Nat.reduceEqDiff, Nat.reduceAdd, ↓reduceIte, undef, hn, h0, mf0, mf1, mf2, hlq, hlj, valEq_pointer, valEq_int, valEq_bool, Nat.add_zero, Nat.zero_add, lq0, lq1, sffld0, lj9, wrapI, eq_false b1, eq_false b2, eq_false b3, eq_true a4]
    exact hfail _ _ (by simp only [get_put, n_put, ↓reduceIte, Nat.reduceEqDiff, hn]) (hbad.mpr (.inr (.inr (.inr (.inl a4))))) hto (by simp only [get_put, n_put, ↓reduceIte, Nat.reduceEqDiff])
  simp (config := { maxSteps := 1000000, implicitDefEqProofs := false }) (disch := omega) only [allW, allR, allL, allB, Nat.sub_self, Nat.add_one_sub_one, Nat.reduceSub, oneOf, evalAll, partsA, optA, Nat.reduceLT, Nat.reduceLeDiff, Nat.reduceEqDiff, Nat.reduceAdd, ↓reduceIte, undef, hn, h0, mf0, mf1, mf2, hlq, hlj, valEq_pointer, valEq_int, valEq_bool, Nat.add_zero, Nat.zero_add, lq0, lq1, sffld0, lj9, wrapI, eq_false b1, eq_false b2, eq_false b3, eq_false a4]
  refine (len_tab hTq m4).mono ?_
  rintro _ t6 ⟨rfl, hs⟩; subst hs
  refine ⟨fun _ => LA.StayA.refl _ _, ?_⟩
  by_cases a5 : hmtx.length < 4 * N + 2 * (G - N)
  · have b5 : (hmtx.length : Int) < 4 * (N : Int) + 2 * ((G : Int) - (N : Int)) := by omega
    simp (config := { maxSteps := 1000000, implicitDefEqProofs := false }) (disch := omega) only [allW, allR, allL, allB, Nat.sub_self, Nat.add_one_sub_one, Nat.reduceSub, oneOf, evalAll, partsA, optA, Nat.reduceLT, Nat.reduceLeDiff, Nat.reduceEqDiff, Nat.reduceAdd, ↓reduceIte, undef, hn, h0, mf0, mf1, mf2, hlq, hlj, valEq_pointer, valEq_int, valEq_bool, Nat.add_zero, Nat.zero_add, lq0, lq1, sffld0, lj9, wrapI, eq_true b5]
    exact hfail _ _ (by simp only [get_put, n_put, ↓reduceIte, Nat.reduceEqDiff, hn]) (hbad.mpr (.inr (.inr (.inr (.inr a5))))) hto (by simp only [get_put, n_put, ↓reduceIte, Nat.reduceEqDiff])
  have b5 : ¬ (hmtx.length : Int) < 4 * (N : Int) + 2 * ((G : Int) - (N : Int)) := by omega
  have hgood : ¬ badM head hhea maxp hmtx := fun h => by
    rcases hbad.mp h with h | h | h | h | h
    · exact a1 h
    · exact a2 h
    · exact a3 h
    · exact a4 h
    · exact a5 h
  have hj9q : j9 ≠ q := by omega
  simp (config := { maxSteps := 1000000, implicitDefEqProofs := false }) (disch := omega) only [allW, allR, allL, allB, Nat.sub_self, Nat.add_one_sub_one, Nat.reduceSub, oneOf, evalAll, partsA, optA, Nat.reduceLT, Nat.reduceLeDiff, Nat.reduceEqDiff, Nat.reduceAdd, ↓reduceIte, undef, hn, h0, mf0, mf1, mf2, hlq, hlj, valEq_pointer, valEq_int, valEq_bool, Nat.add_zero, Nat.zero_add, lq0, lq1, sffld0, lj9, wrapI, eq_false b5]
  have hk6 := hto.next
  refine Comes.loopAt (fun z f t => ∃ (k : Nat) (w : Value), z = N - k ∧ k ≤ N ∧ Tabs X t L ∧ Thing t q [.int .i64 (U : Nat), .int .i64 (G : Nat), w, g] ∧ Own t 1 w k (natsV ((List.range k).map fun i => half hmtx (4 * i))) ∧ Fresh t6.next w ∧ t6.next ≤ t.next ∧ Thing t j9 [cptr i4] ∧ CTo (q :: idsT L) s t ∧ f.n = 99 ∧ f.get 0 = fptr q ∧ f.get 9 = .pointer (some ⟨j9, 0, some 2⟩) ∧ f.get 81 = .int .i64 (N : Nat) ∧ f.get 82 = .int .i64 (k : Nat))
    ⟨0, .slice none 0 0, rfl, by omega, hTq, hq5, .nil, Fresh.nil _, Nat.le_refl _, b9, hto, by simp only [get_put, n_put, ↓reduceIte, Nat.reduceEqDiff, hn], by simp only [get_put, n_put, ↓reduceIte, Nat.reduceEqDiff, h0], by simp only [get_put, n_put, ↓reduceIte, Nat.reduceEqDiff], by simp only [get_put, n_put, ↓reduceIte, Nat.reduceEqDiff], by simp only [get_put, n_put, ↓reduceIte, Nat.reduceEqDiff]; rfl⟩ ?_
  have hqt := hq5.lt
  have hj9t := b9.lt
  have hTqlt := hTq.lt
  clear hn h0 h1 h2 h3 h4 f hTq hq5 b9 hto
  rintro z f t ⟨k, w, rfl, hk, hTt, hqt', hw, hwF, hnt, b9t, hto, hn, h0, h9, h81, h82⟩
  by_cases hlt : k < N
  rotate_left
  · obtain rfl : k = N := by omega
    have d : ¬ (k : Int) < (k : Int) := by omega
    simp (config := { maxSteps := 1000000, implicitDefEqProofs := false }) (disch := omega) only [allW, allR, wfn_ret, wfn_normal, oneOf, evalAll, partsA, optA, Nat.reduceLT, Nat.reduceLeDiff, Nat.reduceEqDiff, Nat.reduceAdd, ↓reduceIte, hn, h0, h9, h81, h82, eq_false d, Try.results19]
    rw [hU, hG] at hqt'
    rw [hN] at hw
    exact .inr ⟨hgood, rfl, hTt, hto, w, hqt', hw, fun i hi => by have := hwF i hi; omega⟩
  have d : (k : Int) < (N : Int) := by omega
  have e4k : numAt hmtx (4 * (k : Int)) 2 = ((half hmtx (4 * k) : Nat) : Int) := by
    rw [show (4 * (k : Int)) = ((4 * k : Nat) : Int) by omega]; exact numAt_half (by omega)
  simp (config := { maxSteps := 1000000, implicitDefEqProofs := false }) (disch := omega) only [allW, allR, oneOf, evalAll, partsA, optA, Nat.reduceLT, Nat.reduceLeDiff, Nat.reduceEqDiff, Nat.reduceAdd, ↓reduceIte, hn, h0, h9, h81, h82, eq_true d, wrapI]
  refine LB.Drawn.looseK (fun j => decide (j = q ∨ j = j9)) (fun j h => by have := of_decide_eq_true h; have := hqt'.lt; have := b9t.lt; omega) 1 1 (by kernel_rfl) (by kernel_rfl) ?_
  have hsp := Stay.spare t 1
  have hnT : (spare t 1).next = t.next + 1 := spare_next _ _
  have b9s := b9t.keeps hsp
  have hqs := hqt'.keeps hsp
  have lq2 := hqs.load (P := Try.prog) agInts (off := 2) (c := 5) rfl (by simp)
  have lj := Thing.loadAll (P := Try.prog) (cs := [cptr i4]) agTab szTab b9s (c := 2) rfl
  have lj' : loadA Try.prog (spare t 1) 55 (.pointer (some ⟨j9, 0, some 2⟩)) = some (tabV i4) := lj
  simp (config := { maxSteps := 1000000, implicitDefEqProofs := false }) (disch := omega) only [allW, allR, allL, allB, Nat.sub_self, Nat.add_one_sub_one, Nat.reduceSub, oneOf, evalAll, partsA, optA, Nat.reduceLT, Nat.reduceLeDiff, Nat.reduceEqDiff, Nat.reduceAdd, ↓reduceIte, hn, h0, h9, h81, h82, mf2, hlq, hlj, lq2, lj', hvt, hw.self, valEq_pointer, valEq_int, Nat.zero_add, wrapI]
  refine (half_tab (hTt.keeps hsp) m4 _ (by omega)).mono ?_
  rintro _ t7 ⟨rfl, hT7, hto7⟩
  rw [e4k]
  refine ⟨fun _ => ⟨hto7.next, fun j hj => by
    rcases of_decide_eq_true hj with rfl | rfl
    · exact hto7.get _ (by omega) hqn
    · exact hto7.get _ (by omega) n9⟩, ?_⟩
  have hn7 := hto7.next
  have hwn : ∀ i, idOf w = some i → i ∉ idsT L := fun i hi hm => by have := hwF i hi; have := hTqlt i hm; omega
  have hw7 := (hw.keeps hsp).cto hto7 hwn
  have hq7 := hqs.cto hto7 hqn
  have b97 := b9s.cto hto7 n9
  simp (config := { maxSteps := 1000000, implicitDefEqProofs := false }) (disch := omega) only [allW, allR, allL, allB, Nat.sub_self, Nat.add_one_sub_one, Nat.reduceSub, oneOf, evalAll, partsA, optA, Nat.reduceLT, Nat.reduceLeDiff, Nat.reduceEqDiff, Nat.reduceAdd, ↓reduceIte, hn, h0, h9, h81, h82, build1 Try.underlying30 szInt zInt]
  refine LB.smake_newSlice (base := t.next) (by rfl) (by omega) (Nat.le_refl _) ?_
  intro bs t8 hbs hid hst8 hnx8 hot8
  have hw8 := hw7.ofPut hnx8 hot8 (fun e => by have := hw.idlt _ e; omega)
  have hq8 := hq7.ofPut hnx8 hot8 (by omega)
  have b98 := b97.ofPut hnx8 hot8 (by omega)
  simp (config := { maxSteps := 1000000, implicitDefEqProofs := false }) (disch := omega) only [allW, allR, allL, allB, Nat.sub_self, Nat.add_one_sub_one, Nat.reduceSub, oneOf, evalAll, partsA, optA, Nat.reduceLT, Nat.reduceLeDiff, Nat.reduceEqDiff, Nat.reduceAdd, ↓reduceIte, hn, h0, h9, h81, h82]
  refine LB.sstep_append Try.underlying30 Try.underlying30 (.inl ⟨_, rfl⟩) szInt byInt zInt rfl hw8 hbs.sees.src rfl (by decide) rfl (by omega) (by omega) (base := t6.next) hwF (by omega) (fun h => by simp at h) (fun j hj => by have := of_decide_eq_true hj; omega) ?_
  intro w' t9 hw9 hF9 hut9 hor
  have hwq : idOf w ≠ some q := fun e => by have := hwF _ e; omega
  have hw9q : idOf w' ≠ some q := fun e => by have := hF9 _ e; omega
  have hq9 := hq8.turns hut9 hwq
  have b99 := b98.turns hut9 (fun e => by have := hwF _ e; omega)
  simp (config := { maxSteps := 1000000, implicitDefEqProofs := false }) (disch := omega) only [allW, allR, allL, allB, Nat.sub_self, Nat.add_one_sub_one, Nat.reduceSub, oneOf, evalAll, partsA, optA, Nat.reduceLT, Nat.reduceLeDiff, Nat.reduceEqDiff, Nat.reduceAdd, ↓reduceIte, hn, h0, h9, h81, h82, mf2, valEq_pointer, Nat.zero_add]
  refine LB.sstep_storeN szInts (by decide) hq9 (off := 2) (c := 5) rfl (vs := [w']) hw9.sees.cell1 rfl (by simp) (by simp [hw9.sees.okCell]) (fun h => by simp at h) ?_
  intro ta hqa hnxa hota
  simp (config := { maxSteps := 1000000, implicitDefEqProofs := false }) (disch := omega) only [allW, allR, allL, allB, Nat.sub_self, Nat.add_one_sub_one, Nat.reduceSub, oneOf, evalAll, partsA, optA, Nat.reduceLT, Nat.reduceLeDiff, Nat.reduceEqDiff, Nat.reduceAdd, ↓reduceIte, hn, h0, h9, h81, h82, wrapI]
  have hnn9 := hut9.next
  have hTa : Tabs X ta L := by
    refine hT7.stay (q := q) ⟨by omega, fun j hj => ?_⟩ hqL
    rw [hota j (by omega), hut9.get j (by omega) (fun e => by have := hwF _ e; omega), hot8 j (by omega)]
  have htoa : CTo (q :: idsT L) s ta := by
    have hc7 : CTo (q :: idsT L) s t7 := (hto.trans (CTo.ofStay hsp)).trans (hmq hto7)
    refine ⟨by have := hto.next; omega, fun j hj hn => ?_⟩
    rw [hota j (fun e => hn (e ▸ List.mem_cons_self ..)), hut9.get j (by have := hto.next; omega) (fun e => by have := hwF _ e; omega), hot8 j (by have := hto.next; omega)]
    exact hc7.get j hj hn
  refine wround_next (N - (k + 1)) (by omega) ⟨k + 1, w', rfl, by omega, hTa, hqa, ?_, hF9, by have := hut9.next; omega, b99.ofPut hnxa hota hj9q, htoa, by simp only [get_put, n_put, ↓reduceIte, Nat.reduceEqDiff, hn], by simp only [get_put, n_put, ↓reduceIte, Nat.reduceEqDiff, h0], by simp only [get_put, n_put, ↓reduceIte, Nat.reduceEqDiff, h9], by simp only [get_put, n_put, ↓reduceIte, Nat.reduceEqDiff, h81], by simp only [get_put, n_put, ↓reduceIte, Nat.reduceEqDiff]; rfl⟩
  rw [List.range_succ, List.map_append, List.map_cons, List.map_nil, natsV_snoc]
  exact hw9.ofPut hnxa hota hw9q
end Go.Proofs.Ytpdkppimlcbhlaa
