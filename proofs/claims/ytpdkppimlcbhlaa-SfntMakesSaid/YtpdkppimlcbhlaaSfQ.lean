/-
  Fonts in tables, the program: Make.
-/
import Derived.Test.YtpdkppimlcbhlaaSfO
import Derived.Test.YtpdkppimlcbhlaaLooseP
set_option linter.unusedSimpArgs false
set_option linter.unusedVariables false
set_option maxRecDepth 100000
namespace Go.Cl
theorem buildV3 {P : Program} {s : ASt} {t e : TypeId} {zv a b c : Value} (hu : P.underlying t = some (.slice e)) (hsz : sizeB P e = some 1) (hz : zeroB P e = some zv) (hpl : plainV zv = true) (hzl : ∃ w, zv.cells.toList = [w]) (h1 : a.cells.toList = [a]) (h2 : b.cells.toList = [b]) (h3 : c.cells.toList = [c]) : buildSliceA P s t 3 [(0, a), (1, b), (2, c)] = newSlice s [a, b, c] 3 1 := by
  obtain ⟨w, hw⟩ := hzl
  unfold buildSliceA; rw [hu]; simp only [hsz, hz, hpl, hw, repeatL, fillA, h1, h2, h3, List.length_singleton]; rfl
/-- Three new blocks, put into the memory. -/
theorem LP.three {T V : ASt} {i n0 n1 n2 : Nat} {c0 c1 c2 : List Value} (hV : V = ((T.put i (.blk ⟨c0, 1, true, 1⟩)).put (i + 1) (.blk ⟨c1, 1, true, 1⟩)).put (i + 1 + 1) (.blk ⟨c2, 1, true, 1⟩)) (h : i + 2 < T.next) (h0 : c0.length = n0 * 1) (h1 : c1.length = n1 * 1) (h2 : c2.length = n2 * 1) :
    Sees V 1 (LP.newV i n0 c0) n0 c0 ∧ Sees V 1 (LP.newV (i + 1) n1 c1) n1 c1 ∧ Sees V 1 (LP.newV (i + 1 + 1) n2 c2) n2 c2 ∧ Stay i T V ∧ V.next = T.next ∧ ∀ v n l, Sees T 1 v n l → (∀ j, idOf v = some j → j < i ∨ i + 3 ≤ j) → Sees V 1 v n l := by
  subst hV
  have e : ∀ {a b n : Nat} {c : List Value}, a ≠ b → idOf (LP.newV a n c) ≠ some b := fun hab q => by
    have q : some _ = some _ := q
    injection q with q; exact hab q
  refine ⟨?_, ?_, ?_, ?_, rfl, ?_⟩
  · exact LP.sees_put (LP.sees_put (LP.own_put (by omega) h0).sees (e (by omega))) (e (by omega))
  · exact LP.sees_put (LP.own_put (by show i + 1 < T.next; omega) h1).sees (e (by omega))
  · exact (LP.own_put (by show i + 1 + 1 < T.next; omega) h2).sees
  · exact ((LP.stay_put (Nat.le_refl _)).trans (LP.stay_put (by omega))).trans (LP.stay_put (by omega))
  · intro v n l hs hj
    exact LP.sees_put (LP.sees_put (LP.sees_put hs (fun q => by have := hj _ q; omega)) (fun q => by have := hj _ q; omega)) (fun q => by have := hj _ q; omega)
end Go.Cl
namespace Go.Proofs.Ytpdkppimlcbhlaa
open Go.Cl Go.Cl.Sf
theorem bs14 (s : ASt) : buildSliceA Try.prog s 27 14 [(0, .int .u8 0), (1, .int .u8 0), (2, .int .u8 0), (3, .int .u8 1), (4, .int .u8 0), (5, .int .u8 1), (6, .int .u8 0), (7, .int .u8 0), (8, .int .u8 0), (9, .int .u8 0), (10, .int .u8 0), (11, .int .u8 12), (12, .int .u8 0), (13, .int .u8 0)] = newSlice s (ofBytes [0, 0, 0, 1, 0, 1, 0, 0, 0, 0, 0, 12, 0, 0]) 14 1 := by
  unfold buildSliceA; rw [Try.underlying27]; simp only [szU8, zU8]; rfl
theorem bs2 (s : ASt) : buildSliceA Try.prog s 27 2 [(0, .int .u8 0), (1, .int .u8 0)] = newSlice s (ofBytes [0, 0]) 2 1 := by
  unfold buildSliceA; rw [Try.underlying27]; simp only [szU8, zU8]; rfl
theorem bs4 (s : ASt) : buildSliceA Try.prog s 27 4 [(0, .int .u8 0), (1, .int .u8 1), (2, .int .u8 0), (3, .int .u8 0)] = newSlice s (ofBytes [0, 1, 0, 0]) 4 1 := by
  unfold buildSliceA; rw [Try.underlying27]; simp only [szU8, zU8]; rfl
theorem sfTc : textConv Try.prog 9 27 = true := by kernel_rfl
theorem plInt : plainV (.int .i64 0) = true := rfl
theorem clInt (n : Int) : (Value.int .i64 n).cells.toList = [.int .i64 n] := rfl
theorem sof_any (s : ASt) (x : Value) (vs : List Value) (L : List (List UInt8)) (hx : Sees s 1 x L.length vs) (hp : Pieces s vs L) (hnl : L.length ≤ 4294967296) (hlen : L.flatten.length ≤ 4294967296) :
    Runs Try.prog libN 24 [x] s (Joined s L.flatten) := by
  refine Runs.enter 5 Try.func24 rfl rfl rfl rfl ?_
  intro f hn hf
  have h0 : f.get 0 = x := hf 0
  clear hf
  simp (config := { maxSteps := 1000000, implicitDefEqProofs := false }) (disch := omega) only [allW, allR, oneOf, evalAll, partsA, optA, Nat.reduceLT, Nat.reduceLeDiff, Nat.reduceEqDiff, Nat.reduceAdd, ↓reduceIte, hn, h0]
  refine (join_any (lib := libN) rfl rfl s x vs L hx hp hnl hlen).mono ?_
  intro v s1 hj
  simp (config := { maxSteps := 1000000, implicitDefEqProofs := false }) (disch := omega) only [allW, allR, wfn_ret, wfn_normal, oneOf, evalAll, partsA, optA, Nat.reduceLT, Nat.reduceLeDiff, Nat.reduceEqDiff, Nat.reduceAdd, ↓reduceIte, hn, Try.results24]
  exact hj
def strsN : List Value := [.string ⟨nCmap.toArray⟩, .string ⟨nHead.toArray⟩, .string ⟨nHhea.toArray⟩, .string ⟨nHmtx.toArray⟩, .string ⟨nMaxp.toArray⟩]
theorem strsN_at {k : Nat} (hk : k < 5) : strsN.getD k undef = .string ⟨(namesB.getD k []).toArray⟩ := by
  have : k = 0 ∨ k = 1 ∨ k = 2 ∨ k = 3 ∨ k = 4 := by omega
  rcases this with rfl | rfl | rfl | rfl | rfl <;> rfl
def MakeIs (s : ASt) (u : Int) (W gl : List Int) (v : Value) (s' : ASt) : Prop :=
  ((badMk u W gl ∧ v = .tuple #[.slice none 0 0, .int .i64 1]) ∨ (¬ badMk u W gl ∧ ∃ B, v = .tuple #[B, .int .i64 0] ∧ Own s' 1 B (fontB u.toNat W gl).length (ofBytes (fontB u.toNat W gl)) ∧ Fresh s.next B)) ∧ Stay s.next s s'
set_option maxHeartbeats 32000000 in
theorem smake_any (s : ASt) (u : Int) (wv gv : Value) (W gl : List Int) (hW : Sees s 1 wv W.length (intsZ W)) (hG : Sees s 1 gv gl.length (intsZ gl)) (hWl : W.length ≤ 100000000) (hGl : gl.length ≤ 100000000) :
    Runs Try.prog libN 9 [.int .i64 u, wv, gv] s (MakeIs s u W gl) := by
  refine Runs.enter 147 Try.func9 rfl rfl rfl rfl ?_
  intro f hn hf
  have h0 : f.get 0 = .int .i64 u := hf 0
  have h1 : f.get 1 = wv := hf 1
  have h2 : f.get 2 = gv := hf 2
  clear hf
  have hd2 : [Value.int .i64 0].length + 1 = 2 := rfl
  simp (config := { maxSteps := 1000000, implicitDefEqProofs := false }) (disch := omega) only [allW, allR, oneOf, evalAll, partsA, optA, Nat.reduceLT, Nat.reduceLeDiff, Nat.reduceEqDiff, Nat.reduceAdd, ↓reduceIte, hn, h0, h1, h2, hW.lenA Try.underlying30, szInt, zInt, plInt, clInt]
  refine wstep_newPtr ?_
  intro s1 ht1 hst1 hnx1
  simp (config := { maxSteps := 1000000, implicitDefEqProofs := false }) (disch := omega) only [allW, allR, oneOf, evalAll, partsA, optA, Nat.reduceLT, Nat.reduceLeDiff, Nat.reduceEqDiff, Nat.reduceAdd, ↓reduceIte, hn, h0, h1, h2, hd2]
  refine wstep_store szInt ht1 (off := 0) (c := 2) rfl (by simp) rfl ?_
  intro s2 ht2 hnx2 hot2
  obtain ⟨j8, hj8⟩ : ∃ j, j = s.next := ⟨_, rfl⟩
  have ht2 : Thing s2 s.next [.int .i64 (W.length : Nat)] := ht2
  rw [← hj8] at ht2
  have hst2 : Stay s.next s s2 := hst1.trans ⟨by omega, fun j hj => hot2 j (by omega)⟩
  simp (config := { maxSteps := 1000000, implicitDefEqProofs := false }) (disch := omega) only [allW, allR, oneOf, evalAll, partsA, optA, Nat.reduceLT, Nat.reduceLeDiff, Nat.reduceEqDiff, Nat.reduceAdd, ↓reduceIte, hn, h0, h1, h2, ← hj8, evalA_func]
  refine (containsI 22 [] s2 wv W (hW.keeps hst2) hWl (fun w => decide (w < 0) || decide (65535 < w)) (fun s' _ w => mk1_any s' w)).mono ?_
  rintro _ s3 ⟨rfl, hst3⟩
  have ht3 := ht2.keeps hst3
  have hst03 := hst2.trans (hst3.weaken hst2.next)
  simp (config := { maxSteps := 1000000, implicitDefEqProofs := false }) (disch := omega) only [allW, allR, oneOf, evalAll, partsA, optA, Nat.reduceLT, Nat.reduceLeDiff, Nat.reduceEqDiff, Nat.reduceAdd, ↓reduceIte, hn, h0, h1, h2, aop_makeFunc]
  refine (containsI 23 [.pointer (some ⟨j8, 0, some 2⟩)] s3 gv gl (hG.keeps hst03) hGl (fun g => decide (g < 0) || decide (((min W.length 256 : Nat) : Int) ≤ g)) (fun s' hs' g => mk2_any s' g W.length j8 (ht3.keeps hs'))).mono ?_
  rintro _ s4 ⟨rfl, hst4⟩
  have ht4 := ht3.keeps hst4
  have hst04 := hst03.trans (hst4.weaken hst03.next)
  have l8 := ht4.load (P := Try.prog) agInt (off := 0) (c := 2) rfl (by simp)
  have hG4 := hG.keeps hst04
  have hW4 := hW.keeps hst04
  have hbad : ∀ (f : AFr), f.n = 147 → badMk u W gl → f.get 6 = .slice none 0 0 → f.get 7 = .int .i64 1 → wfn Try.prog (Try.f9).results.toList (MakeIs s u W gl) .ret f s4 := by
    intro f hn hb h6 h7
    simp only [allW, allR, wfn_ret, wfn_normal, oneOf, evalAll, partsA, optA, Nat.reduceLT, Nat.reduceLeDiff, Nat.reduceEqDiff, Nat.reduceAdd, ↓reduceIte, hn, h6, h7, Try.results9]
    exact ⟨.inl ⟨hb, rfl⟩, hst04⟩
  have hwd : (W.any fun w => decide (w < 0) || decide (65535 < w)) = wideW W := rfl
  have hng : (gl.any fun g => decide (g < 0) || decide (((min W.length 256 : Nat) : Int) ≤ g)) = noneG W.length gl := rfl
  rw [hwd, hng]
  by_cases k1 : u < 16
  · simp (config := { maxSteps := 1000000, implicitDefEqProofs := false }) (disch := omega) only [allW, allR, oneOf, evalAll, partsA, optA, Nat.reduceLT, Nat.reduceLeDiff, Nat.reduceEqDiff, Nat.reduceAdd, ↓reduceIte, undef, hn, h0, h1, h2, eq_true k1]
    exact hbad _ (by simp only [get_put, n_put, ↓reduceIte, Nat.reduceEqDiff, hn]) (.inl k1) (by simp only [get_put, n_put, ↓reduceIte, Nat.reduceEqDiff]) (by simp only [get_put, n_put, ↓reduceIte, Nat.reduceEqDiff])
  by_cases k2 : 16384 < u
  · simp (config := { maxSteps := 1000000, implicitDefEqProofs := false }) (disch := omega) only [allW, allR, oneOf, evalAll, partsA, optA, Nat.reduceLT, Nat.reduceLeDiff, Nat.reduceEqDiff, Nat.reduceAdd, ↓reduceIte, undef, hn, h0, h1, h2, eq_false k1, eq_true k2]
    exact hbad _ (by simp only [get_put, n_put, ↓reduceIte, Nat.reduceEqDiff, hn]) (.inr (.inl k2)) (by simp only [get_put, n_put, ↓reduceIte, Nat.reduceEqDiff]) (by simp only [get_put, n_put, ↓reduceIte, Nat.reduceEqDiff])
  by_cases k3 : W.length < 1
  · have e3 : (W.length : Int) < 1 := by omega
    simp (config := { maxSteps := 1000000, implicitDefEqProofs := false }) (disch := omega) only [allW, allR, oneOf, evalAll, partsA, optA, Nat.reduceLT, Nat.reduceLeDiff, Nat.reduceEqDiff, Nat.reduceAdd, ↓reduceIte, undef, hn, h0, h1, h2, eq_false k1, eq_false k2, l8, eq_true e3]
    exact hbad _ (by simp only [get_put, n_put, ↓reduceIte, Nat.reduceEqDiff, hn]) (.inr (.inr (.inl k3))) (by simp only [get_put, n_put, ↓reduceIte, Nat.reduceEqDiff]) (by simp only [get_put, n_put, ↓reduceIte, Nat.reduceEqDiff])
  have e3 : ¬ (W.length : Int) < 1 := by omega
  by_cases k4 : 1000 < W.length
  · have e4 : (1000 : Int) < (W.length : Int) := by omega
    simp (config := { maxSteps := 1000000, implicitDefEqProofs := false }) (disch := omega) only [allW, allR, oneOf, evalAll, partsA, optA, Nat.reduceLT, Nat.reduceLeDiff, Nat.reduceEqDiff, Nat.reduceAdd, ↓reduceIte, undef, hn, h0, h1, h2, eq_false k1, eq_false k2, l8, eq_false e3, eq_true e4]
    exact hbad _ (by simp only [get_put, n_put, ↓reduceIte, Nat.reduceEqDiff, hn]) (.inr (.inr (.inr (.inl k4)))) (by simp only [get_put, n_put, ↓reduceIte, Nat.reduceEqDiff]) (by simp only [get_put, n_put, ↓reduceIte, Nat.reduceEqDiff])
  have e4 : ¬ (1000 : Int) < (W.length : Int) := by omega
  cases k5 : wideW W with
  | true =>
    simp (config := { maxSteps := 1000000, implicitDefEqProofs := false }) (disch := omega) only [allW, allR, oneOf, evalAll, partsA, optA, Nat.reduceLT, Nat.reduceLeDiff, Nat.reduceEqDiff, Nat.reduceAdd, ↓reduceIte, undef, hn, h0, h1, h2, eq_false k1, eq_false k2, l8, eq_false e3, eq_false e4]
    exact hbad _ (by simp only [get_put, n_put, ↓reduceIte, Nat.reduceEqDiff, hn]) (.inr (.inr (.inr (.inr (.inl k5))))) (by simp only [get_put, n_put, ↓reduceIte, Nat.reduceEqDiff]) (by simp only [get_put, n_put, ↓reduceIte, Nat.reduceEqDiff])
  | false =>
  by_cases k6 : 256 < gl.length
  · have e6 : (256 : Int) < (gl.length : Int) := by omega
    simp (config := { maxSteps := 1000000, implicitDefEqProofs := false }) (disch := omega) only [allW, allR, oneOf, evalAll, partsA, optA, Nat.reduceLT, Nat.reduceLeDiff, Nat.reduceEqDiff, Nat.reduceAdd, ↓reduceIte, undef, hn, h0, h1, h2, eq_false k1, eq_false k2, l8, eq_false e3, eq_false e4, hG4.lenA Try.underlying30, eq_true e6]
    exact hbad _ (by simp only [get_put, n_put, ↓reduceIte, Nat.reduceEqDiff, hn]) (.inr (.inr (.inr (.inr (.inr (.inl k6)))))) (by simp only [get_put, n_put, ↓reduceIte, Nat.reduceEqDiff]) (by simp only [get_put, n_put, ↓reduceIte, Nat.reduceEqDiff])
  have e6 : ¬ (256 : Int) < (gl.length : Int) := by omega
  cases k7 : noneG W.length gl with
  | true =>
    simp (config := { maxSteps := 1000000, implicitDefEqProofs := false }) (disch := omega) only [allW, allR, oneOf, evalAll, partsA, optA, Nat.reduceLT, Nat.reduceLeDiff, Nat.reduceEqDiff, Nat.reduceAdd, ↓reduceIte, undef, hn, h0, h1, h2, eq_false k1, eq_false k2, l8, eq_false e3, eq_false e4, hG4.lenA Try.underlying30, eq_false e6]
    exact hbad _ (by simp only [get_put, n_put, ↓reduceIte, Nat.reduceEqDiff, hn]) (.inr (.inr (.inr (.inr (.inr (.inr k7)))))) (by simp only [get_put, n_put, ↓reduceIte, Nat.reduceEqDiff]) (by simp only [get_put, n_put, ↓reduceIte, Nat.reduceEqDiff])
  | false =>
  have hgood : ¬ badMk u W gl := by unfold badMk; rw [k5, k7]; simp only [k1, k2, k3, k4, k6, or_self, Bool.false_eq_true, not_false_eq_true]
  have hWr := wideW_false k5
  have hGr := noneG_false k7
  clear hbad k5 k7 hwd hng
  obtain ⟨un, rfl⟩ : ∃ n : Nat, u = n := ⟨u.toNat, by omega⟩
  simp (config := { maxSteps := 1000000, implicitDefEqProofs := false }) (disch := omega) only [allW, allR, oneOf, evalAll, partsA, optA, Nat.reduceLT, Nat.reduceLeDiff, Nat.reduceEqDiff, Nat.reduceAdd, ↓reduceIte, undef, hn, h0, h1, h2, eq_false k1, eq_false k2, l8, eq_false e3, eq_false e4, hG4.lenA Try.underlying30, eq_false e6, bs14]
  refine wstep_newSlice (by rfl) ?_
  intro a1 s5 ha1 ha1F hst5
  simp (config := { maxSteps := 1000000, implicitDefEqProofs := false }) (disch := omega) only [allW, allR, oneOf, evalAll, partsA, optA, Nat.reduceLT, Nat.reduceLeDiff, Nat.reduceEqDiff, Nat.reduceAdd, ↓reduceIte, hn, h0, h1, h2]
  refine (sbig_any s5 262 2 (by omega) (by omega)).mono ?_
  rintro a2 s6 ⟨ha2, ha2F, hst6⟩
  simp (config := { maxSteps := 1000000, implicitDefEqProofs := false }) (disch := omega) only [allW, allR, oneOf, evalAll, partsA, optA, Nat.reduceLT, Nat.reduceLeDiff, Nat.reduceEqDiff, Nat.reduceAdd, ↓reduceIte, hn, h0, h1, h2, bs2]
  refine wstep_newSlice (by rfl) ?_
  intro a3 s7 ha3 ha3F hst7
  have ha1 := (ha1.keeps hst6).keeps hst7
  have ha2 := ha2.keeps hst7
  simp (config := { maxSteps := 1000000, implicitDefEqProofs := false }) (disch := omega) only [allW, allR, oneOf, evalAll, partsA, optA, Nat.reduceLT, Nat.reduceLeDiff, Nat.reduceEqDiff, Nat.reduceAdd, ↓reduceIte, hn, h0, h1, h2, buildV3 Try.underlying64 szSl zSl rfl ⟨_, rfl⟩ ha1.sees.cell1 ha2.sees.cell1 ha3.sees.cell1]
  refine wstep_newSlice (by rfl) ?_
  intro av s8 hav havF hst8
  simp (config := { maxSteps := 1000000, implicitDefEqProofs := false }) (disch := omega) only [allW, allR, oneOf, evalAll, partsA, optA, Nat.reduceLT, Nat.reduceLeDiff, Nat.reduceEqDiff, Nat.reduceAdd, ↓reduceIte, hn, h0, h1, h2]
  have hflat : [[0, 0, 0, 1, 0, 1, 0, 0, 0, 0, 0, 12, 0, 0], be 2 262, [0, 0]].flatten = cmap0 := rfl
  refine (sof_any s8 av _ [[0, 0, 0, 1, 0, 1, 0, 0, 0, 0, 0, 12, 0, 0], be 2 262, [0, 0]] hav.sees (.cons (ha1.keeps hst8).sees (.cons (ha2.keeps hst8).sees (.cons (ha3.keeps hst8).sees (.nil _)))) (by decide) (by rw [hflat, cmap0_length]; omega)).mono ?_
  rw [hflat]
  rintro cv s9 ⟨hcvs, hcv, hcvF, hst9⟩
  clear hcvs
  replace hcv := hcv (by rw [cmap0_length]; omega)
  have n4 := hst04.next
  have n5 := hst5.next
  have n6 := hst6.next
  have n7 := hst7.next
  have n8 := hst8.next
  have n9 := hst9.next
  have hst49 : Stay s4.next s4 s9 := (((hst5.trans (hst6.weaken n5)).trans (hst7.weaken (by omega))).trans (hst8.weaken (by omega))).trans (hst9.weaken (by omega))
  have hst09 := hst04.trans (hst49.weaken n4)
  have ht9 := ht4.keeps hst49
  have hj84 := ht4.lt
  have hcvF4 : Fresh s4.next cv := fun i hi => by have := hcvF i hi; omega
  have h18 := cmap0_length
  simp (config := { maxSteps := 1000000, implicitDefEqProofs := false }) (disch := omega) only [allW, allR, oneOf, evalAll, partsA, optA, Nat.reduceLT, Nat.reduceLeDiff, Nat.reduceEqDiff, Nat.reduceAdd, ↓reduceIte, hn, h0, h1, h2]
  refine Comes.loopOut (fun z f t => ∃ (k : Nat) (cv : Value), z = 256 - k ∧ k ≤ 256 ∧ Own t 1 cv (cmap0 ++ mapB gl k).length (ofBytes (cmap0 ++ mapB gl k)) ∧ Fresh s4.next cv ∧ Thing t j8 [.int .i64 (W.length : Nat)] ∧ Stay s4.next s4 t ∧ f.n = 147 ∧ f.get 0 = .int .i64 (un : Nat) ∧ f.get 1 = wv ∧ f.get 2 = gv ∧ f.get 8 = .pointer (some ⟨j8, 0, some 2⟩) ∧ f.get 11 = cv ∧ f.get 59 = .int .i64 (k : Nat))
    (fun z f t => z = .exit 0 ∧ ∃ cv : Value, Own t 1 cv (cmapB gl).length (ofBytes (cmapB gl)) ∧ Fresh s4.next cv ∧ Thing t j8 [.int .i64 (W.length : Nat)] ∧ Stay s4.next s4 t ∧ f.n = 147 ∧ f.get 0 = .int .i64 (un : Nat) ∧ f.get 1 = wv ∧ f.get 2 = gv ∧ f.get 8 = .pointer (some ⟨j8, 0, some 2⟩) ∧ f.get 11 = cv)
    ⟨0, cv, rfl, by omega, by rw [show mapB gl 0 = [] from rfl, List.append_nil]; exact hcv, hcvF4, ht9, hst49, by simp only [get_put, n_put, ↓reduceIte, Nat.reduceEqDiff, hn], by simp only [get_put, n_put, ↓reduceIte, Nat.reduceEqDiff, h0], by simp only [get_put, n_put, ↓reduceIte, Nat.reduceEqDiff, h1], by simp only [get_put, n_put, ↓reduceIte, Nat.reduceEqDiff, h2], by simp only [get_put, n_put, ↓reduceIte, Nat.reduceEqDiff], by simp only [get_put, n_put, ↓reduceIte, Nat.reduceEqDiff], by simp only [get_put, n_put, ↓reduceIte, Nat.reduceEqDiff]; rfl⟩ ?_ ?_
  · clear hn h0 h1 h2 f hcv hcvF hcvF4 cv ht9
    rintro Q hQ z f t ⟨k, cv, rfl, hk, hcv, hcvF, ht, hst, hn, h0, h1, h2, h8, h11, h59⟩
    by_cases hlt : k < 256
    rotate_left
    · obtain rfl : k = 256 := by omega
      have d : ¬ ((256 : Nat) : Int) < 256 := by omega
      simp (config := { maxSteps := 1000000, implicitDefEqProofs := false }) (disch := omega) only [allW, allR, oneOf, evalAll, partsA, optA, Nat.reduceLT, Nat.reduceLeDiff, Nat.reduceEqDiff, Nat.reduceAdd, ↓reduceIte, undef, hn, h0, h1, h2, h8, h11, h59, eq_false d]
      exact hQ _ _ _ ⟨rfl, cv, hcv, hcvF, ht, hst, by simp only [get_put, n_put, ↓reduceIte, Nat.reduceEqDiff, hn], by simp only [get_put, n_put, ↓reduceIte, Nat.reduceEqDiff, h0], by simp only [get_put, n_put, ↓reduceIte, Nat.reduceEqDiff, h1], by simp only [get_put, n_put, ↓reduceIte, Nat.reduceEqDiff, h2], by simp only [get_put, n_put, ↓reduceIte, Nat.reduceEqDiff, h8], by simp only [get_put, n_put, ↓reduceIte, Nat.reduceEqDiff, h11]⟩
    have d : (k : Int) < 256 := by omega
    have hGt := hG4.keeps hst
    have hnt := hst.next
    have hlen : (cmap0 ++ mapB gl k).length = 18 + k := by rw [List.length_append, h18, mapB_length]
    obtain ⟨gn, hgn⟩ : ∃ n : Nat, gl.getD k 0 = n := by
      by_cases c : k < gl.length
      · exact ⟨(gl.getD k 0).toNat, by have := (hGr _ (getDI_mem c)).1; omega⟩
      · exact ⟨0, by simp [List.getD, List.getElem?_eq_none (Nat.le_of_not_lt c)]⟩
    have hms : ofBytes (cmap0 ++ mapB gl k) ++ [.int .u8 ((UInt8.ofNat gn).toNat : Int)] = ofBytes (cmap0 ++ mapB gl (k + 1)) := by
      rw [mapB_succ, ← List.append_assoc, hgn, Int.toNat_natCast, ofBytes_append (cmap0 ++ mapB gl k)]; rfl
    by_cases c : k < gl.length
    · have d2 : (k : Int) < (gl.length : Int) := by omega
      have hix := hGt.indexAddr (P := Try.prog) (k := .i64) (x := (k : Int)) Try.underlying30 szInt (by omega) (by omega)
      rw [Int.toNat_natCast] at hix
      have hld := hGt.load1 (P := Try.prog) agInt c
      rw [intsZ_getD c, hgn] at hld
      simp (config := { maxSteps := 1000000, implicitDefEqProofs := false }) (disch := omega) only [allW, allR, oneOf, evalAll, partsA, optA, Nat.reduceLT, Nat.reduceLeDiff, Nat.reduceEqDiff, Nat.reduceAdd, ↓reduceIte, undef, hn, h0, h1, h2, h8, h11, h59, eq_true d, hGt.lenA Try.underlying30, eq_true d2, hix, hld, conv_int Try.underlying3 Try.underlying5, u8_of, build1 Try.underlying27 szU8 zU8]
      refine wstep_append_lit Try.underlying27 szU8 byU8 zU8 rfl hcv (by simp only [get_put, n_put, ↓reduceIte, Nat.reduceEqDiff]) (by decide) (by simp only [get_put, n_put, ↓reduceIte, Nat.reduceEqDiff, hn]; decide) (by simp only [get_put, n_put, ↓reduceIte, Nat.reduceEqDiff, hn]; decide) (by rfl) (by decide) rfl (by omega) (by omega) hcvF hnt ?_
      intro bs cv' t2 hcv2 hF2 hst2 hut2 _
      rw [hms, hlen, show 18 + k + 1 = (cmap0 ++ mapB gl (k + 1)).length by rw [List.length_append, h18, mapB_length]; omega] at hcv2
      simp (config := { maxSteps := 1000000, implicitDefEqProofs := false }) (disch := omega) only [allW, allR, oneOf, evalAll, partsA, optA, Nat.reduceLT, Nat.reduceLeDiff, Nat.reduceEqDiff, Nat.reduceAdd, ↓reduceIte, undef, hn, h0, h1, h2, h8, h11, h59, wrapI]
      exact wround_next (256 - (k + 1)) (by omega) ⟨k + 1, cv', rfl, by omega, hcv2, hF2, ht.turns hut2 (fun e => by have := hcvF _ e; omega), hst.trans hst2, by simp only [get_put, n_put, ↓reduceIte, Nat.reduceEqDiff, hn], by simp only [get_put, n_put, ↓reduceIte, Nat.reduceEqDiff, h0], by simp only [get_put, n_put, ↓reduceIte, Nat.reduceEqDiff, h1], by simp only [get_put, n_put, ↓reduceIte, Nat.reduceEqDiff, h2], by simp only [get_put, n_put, ↓reduceIte, Nat.reduceEqDiff, h8], by simp only [get_put, n_put, ↓reduceIte, Nat.reduceEqDiff], by simp only [get_put, n_put, ↓reduceIte, Nat.reduceEqDiff]; rfl⟩
    · have d2 : ¬ (k : Int) < (gl.length : Int) := by omega
      obtain rfl : gn = 0 := by
        have : gl.getD k 0 = 0 := by simp [List.getD, List.getElem?_eq_none (Nat.le_of_not_lt c)]
        omega
      have hz0 : convA Try.prog t 3 5 (.int .i64 0) = some (.int .u8 ((UInt8.ofNat 0).toNat : Int), t) := by
        have := conv_int (P := Try.prog) (s := t) (j := .i64) (n := ((0 : Nat) : Int)) Try.underlying3 Try.underlying5
        rw [u8_of] at this; exact this
      simp (config := { maxSteps := 1000000, implicitDefEqProofs := false }) (disch := omega) only [allW, allR, oneOf, evalAll, partsA, optA, Nat.reduceLT, Nat.reduceLeDiff, Nat.reduceEqDiff, Nat.reduceAdd, ↓reduceIte, undef, hn, h0, h1, h2, h8, h11, h59, eq_true d, hGt.lenA Try.underlying30, eq_false d2, hz0, build1 Try.underlying27 szU8 zU8]
      refine wstep_append_lit Try.underlying27 szU8 byU8 zU8 rfl hcv (by simp only [get_put, n_put, ↓reduceIte, Nat.reduceEqDiff]) (by decide) (by simp only [get_put, n_put, ↓reduceIte, Nat.reduceEqDiff, hn]; decide) (by simp only [get_put, n_put, ↓reduceIte, Nat.reduceEqDiff, hn]; decide) (by rfl) (by decide) rfl (by omega) (by omega) hcvF hnt ?_
      intro bs cv' t2 hcv2 hF2 hst2 hut2 _
      rw [hms, hlen, show 18 + k + 1 = (cmap0 ++ mapB gl (k + 1)).length by rw [List.length_append, h18, mapB_length]; omega] at hcv2
      simp (config := { maxSteps := 1000000, implicitDefEqProofs := false }) (disch := omega) only [allW, allR, oneOf, evalAll, partsA, optA, Nat.reduceLT, Nat.reduceLeDiff, Nat.reduceEqDiff, Nat.reduceAdd, ↓reduceIte, undef, hn, h0, h1, h2, h8, h11, h59, wrapI]
      exact wround_next (256 - (k + 1)) (by omega) ⟨k + 1, cv', rfl, by omega, hcv2, hF2, ht.turns hut2 (fun e => by have := hcvF _ e; omega), hst.trans hst2, by simp only [get_put, n_put, ↓reduceIte, Nat.reduceEqDiff, hn], by simp only [get_put, n_put, ↓reduceIte, Nat.reduceEqDiff, h0], by simp only [get_put, n_put, ↓reduceIte, Nat.reduceEqDiff, h1], by simp only [get_put, n_put, ↓reduceIte, Nat.reduceEqDiff, h2], by simp only [get_put, n_put, ↓reduceIte, Nat.reduceEqDiff, h8], by simp only [get_put, n_put, ↓reduceIte, Nat.reduceEqDiff], by simp only [get_put, n_put, ↓reduceIte, Nat.reduceEqDiff]; rfl⟩
  clear hn h0 h1 h2 f hcv hcvF hcvF4 cv ht9
  rintro z f t ⟨rfl, cv, hcv, hcvF, ht, hst, hn, h0, h1, h2, h8, h11⟩
  have hWt := hW4.keeps hst
  simp (config := { maxSteps := 1000000, implicitDefEqProofs := false }) (disch := omega) only [allW, allR, oneOf, evalAll, partsA, optA, Nat.reduceLT, Nat.reduceLeDiff, Nat.reduceEqDiff, Nat.reduceAdd, ↓reduceIte, undef, hn, h0, h1, h2, h8, h11, hWt.lenA Try.underlying30]
  refine Comes.loopOut (fun z f t => ∃ (k : Nat) (mv : Value), z = W.length - k ∧ k ≤ W.length ∧ Own t 1 mv (hmtxB W k).length (ofBytes (hmtxB W k)) ∧ Fresh s4.next mv ∧ Own t 1 cv (cmapB gl).length (ofBytes (cmapB gl)) ∧ (∀ i, idOf cv = some i → idOf mv ≠ some i) ∧ Thing t j8 [.int .i64 (W.length : Nat)] ∧ Stay s4.next s4 t ∧ f.n = 147 ∧ f.get 0 = .int .i64 (un : Nat) ∧ f.get 8 = .pointer (some ⟨j8, 0, some 2⟩) ∧ f.get 11 = cv ∧ f.get 14 = mv ∧ f.get 76 = wv ∧ f.get 77 = .int .i64 (W.length : Nat) ∧ f.get 78 = .int .i64 (k : Nat))
    (fun z f t => z = .exit 2 ∧ ∃ mv : Value, Own t 1 mv (hmtxB W W.length).length (ofBytes (hmtxB W W.length)) ∧ Fresh s4.next mv ∧ Own t 1 cv (cmapB gl).length (ofBytes (cmapB gl)) ∧ Thing t j8 [.int .i64 (W.length : Nat)] ∧ Stay s4.next s4 t ∧ f.n = 147 ∧ f.get 0 = .int .i64 (un : Nat) ∧ f.get 8 = .pointer (some ⟨j8, 0, some 2⟩) ∧ f.get 11 = cv ∧ f.get 14 = mv)
    ⟨0, .slice none 0 0, rfl, by omega, .nil, Fresh.nil _, hcv, (fun i _ h => by cases h), ht, hst, by simp only [get_put, n_put, ↓reduceIte, Nat.reduceEqDiff, hn], by simp only [get_put, n_put, ↓reduceIte, Nat.reduceEqDiff, h0], by simp only [get_put, n_put, ↓reduceIte, Nat.reduceEqDiff, h8], by simp only [get_put, n_put, ↓reduceIte, Nat.reduceEqDiff, h11], by simp only [get_put, n_put, ↓reduceIte, Nat.reduceEqDiff], by simp only [get_put, n_put, ↓reduceIte, Nat.reduceEqDiff], by simp only [get_put, n_put, ↓reduceIte, Nat.reduceEqDiff], by simp only [get_put, n_put, ↓reduceIte, Nat.reduceEqDiff]; rfl⟩ ?_ ?_
  · clear hn h0 h1 h2 h8 h11 f hcv ht
    have hWs := hW4
    rintro Q hQ z f t ⟨k, mv, rfl, hk, hmv, hmvF, hcv, hcm, ht, hst, hn, h0, h8, h11, h14, h76, h77, h78⟩
    by_cases hlt : k < W.length
    rotate_left
    · obtain rfl : k = W.length := by omega
      have d : ¬ (W.length : Int) < (W.length : Int) := by omega
      simp (config := { maxSteps := 1000000, implicitDefEqProofs := false }) (disch := omega) only [allW, allR, oneOf, evalAll, partsA, optA, Nat.reduceLT, Nat.reduceLeDiff, Nat.reduceEqDiff, Nat.reduceAdd, ↓reduceIte, undef, hn, h0, h8, h11, h14, h76, h77, h78, eq_false d]
      exact hQ _ _ _ ⟨rfl, mv, hmv, hmvF, hcv, ht, hst, by simp only [get_put, n_put, ↓reduceIte, Nat.reduceEqDiff, hn], by simp only [get_put, n_put, ↓reduceIte, Nat.reduceEqDiff, h0], by simp only [get_put, n_put, ↓reduceIte, Nat.reduceEqDiff, h8], by simp only [get_put, n_put, ↓reduceIte, Nat.reduceEqDiff, h11], by simp only [get_put, n_put, ↓reduceIte, Nat.reduceEqDiff, h14]⟩
    have d : (k : Int) < (W.length : Int) := by omega
    have hWt := hWs.keeps hst
    have hnt := hst.next
    have hmlen := hmtxB_length (W := W) k hk
    have hmlen' := hmtxB_length (W := W) (k + 1) hlt
    have hix := hWt.indexAddr (P := Try.prog) (k := .i64) (x := (k : Int)) Try.underlying30 szInt (by omega) (by omega)
    rw [Int.toNat_natCast] at hix
    have hld := hWt.load1 (P := Try.prog) agInt hlt
    rw [intsZ_getD hlt] at hld
    have hwb := hWr _ (getDI_mem hlt)
    obtain ⟨wn, hwn⟩ : ∃ n : Nat, W.getD k 0 = n := ⟨(W.getD k 0).toNat, by omega⟩
    rw [hwn] at hld hwb
    simp (config := { maxSteps := 1000000, implicitDefEqProofs := false }) (disch := omega) only [allW, allR, oneOf, evalAll, partsA, optA, Nat.reduceLT, Nat.reduceLeDiff, Nat.reduceEqDiff, Nat.reduceAdd, ↓reduceIte, undef, hn, h0, h8, h11, h14, h76, h77, h78, eq_true d, hix, hld]
    refine (sbig_any t wn 2 (by omega) (by omega)).mono ?_
    rintro b t1 ⟨hb, hbF, hst1⟩
    have hn1 := hst1.next
    simp (config := { maxSteps := 1000000, implicitDefEqProofs := false }) (disch := omega) only [allW, allR, oneOf, evalAll, partsA, optA, Nat.reduceLT, Nat.reduceLeDiff, Nat.reduceEqDiff, Nat.reduceAdd, ↓reduceIte, undef, hn, h0, h8, h11, h14, h76, h77, h78]
    refine wstep_append Try.underlying27 Try.underlying27 (.inl ⟨_, rfl⟩) szU8 byU8 zU8 rfl (hmv.keeps hst1) hb.sees.src (by rw [ofBytes_length]; omega) (by decide) (ofBytes_ok _) (by rw [be_length]; omega) (by rw [be_length]; omega) hmvF (by omega) ?_
    intro mv2 t2 hmv2 hF2 hst2 hut2 hor2
    have hcm2 : ∀ i, idOf cv = some i → idOf mv2 ≠ some i := fun i hi e => by
      rcases hor2 with h | ⟨q, h, hq⟩
      · exact hcm i hi (by rw [← h]; exact e)
      · rw [h] at e; injection e with e; have := hcv.idlt i hi; omega
    have hcv2 := (hcv.keeps hst1).turns hut2 hcm
    have ht2 := (ht.keeps hst1).turns hut2 (fun e => by have := hmvF _ e; omega)
    have hn2 := hut2.next
    simp (config := { maxSteps := 1000000, implicitDefEqProofs := false }) (disch := omega) only [allW, allR, oneOf, evalAll, partsA, optA, Nat.reduceLT, Nat.reduceLeDiff, Nat.reduceEqDiff, Nat.reduceAdd, ↓reduceIte, undef, hn, h0, h8, h11, h14, h76, h77, h78, bs2]
    refine wstep_newSlice (by rfl) ?_
    intro z2 t3 hz2 hz2F hst3
    have hn3 := hst3.next
    simp (config := { maxSteps := 1000000, implicitDefEqProofs := false }) (disch := omega) only [allW, allR, oneOf, evalAll, partsA, optA, Nat.reduceLT, Nat.reduceLeDiff, Nat.reduceEqDiff, Nat.reduceAdd, ↓reduceIte, undef, hn, h0, h8, h11, h14, h76, h77, h78]
    refine wstep_append Try.underlying27 Try.underlying27 (.inl ⟨_, rfl⟩) szU8 byU8 zU8 rfl (hmv2.keeps hst3) hz2.sees.src (by rw [ofBytes_length]; rfl) (by decide) (ofBytes_ok _) (by rw [be_length]; omega) (by rw [be_length]; omega) hF2 (by omega) ?_
    intro mv3 t4 hmv3 hF3 hst4 hut4 hor4
    have hcm3 : ∀ i, idOf cv = some i → idOf mv3 ≠ some i := fun i hi e => by
      rcases hor4 with h | ⟨q, h, hq⟩
      · exact hcm2 i hi (by rw [← h]; exact e)
      · rw [h] at e; injection e with e; have := hcv2.idlt i hi; omega
    have hcv4 := (hcv2.keeps hst3).turns hut4 hcm2
    have ht4' := (ht2.keeps hst3).turns hut4 (fun e => by have := hF2 _ e; omega)
    have hms : ofBytes (hmtxB W k) ++ ofBytes (be 2 wn) ++ ofBytes [0, 0] = ofBytes (hmtxB W (k + 1)) := by
      rw [hmtxB_succ hlt, hwn, Int.toNat_natCast, ofBytes_append, ofBytes_append]
    rw [hms, be_length, show (hmtxB W k).length + 2 + 2 = (hmtxB W (k + 1)).length by omega] at hmv3
    simp (config := { maxSteps := 1000000, implicitDefEqProofs := false }) (disch := omega) only [allW, allR, oneOf, evalAll, partsA, optA, Nat.reduceLT, Nat.reduceLeDiff, Nat.reduceEqDiff, Nat.reduceAdd, ↓reduceIte, undef, hn, h0, h8, h11, h14, h76, h77, h78, wrapI]
    exact wround_next (W.length - (k + 1)) (by omega) ⟨k + 1, mv3, rfl, by omega, hmv3, hF3, hcv4, hcm3, ht4', (hst.trans (hst1.weaken hnt)).trans (hst2.trans ((hst3.weaken (by omega)).trans hst4)), by simp only [get_put, n_put, ↓reduceIte, Nat.reduceEqDiff, hn], by simp only [get_put, n_put, ↓reduceIte, Nat.reduceEqDiff, h0], by simp only [get_put, n_put, ↓reduceIte, Nat.reduceEqDiff, h8], by simp only [get_put, n_put, ↓reduceIte, Nat.reduceEqDiff, h11], by simp only [get_put, n_put, ↓reduceIte, Nat.reduceEqDiff], by simp only [get_put, n_put, ↓reduceIte, Nat.reduceEqDiff, h76], by simp only [get_put, n_put, ↓reduceIte, Nat.reduceEqDiff, h77], by simp only [get_put, n_put, ↓reduceIte, Nat.reduceEqDiff]; rfl⟩
  clear hn h0 h1 h2 h8 h11 f hcv ht
  rintro z f t ⟨rfl, mv, hmv, hmvF, hcv, ht, hst, hn, h0, h8, h11, h14⟩
  simp (config := { maxSteps := 1000000, implicitDefEqProofs := false }) (disch := omega) only [allW, allR, oneOf, evalAll, partsA, optA, Nat.reduceLT, Nat.reduceLeDiff, Nat.reduceEqDiff, Nat.reduceAdd, ↓reduceIte, hn, h0, h8, h11, h14, buildV5 (a := .string { data := #[99, 109, 97, 112] }) (b := .string { data := #[104, 101, 97, 100] }) (c := .string { data := #[104, 104, 101, 97] }) (d := .string { data := #[104, 109, 116, 120] }) (g := .string { data := #[109, 97, 120, 112] }) Try.underlying52 sfSzStr sfZStr rfl ⟨_, rfl⟩ rfl rfl rfl rfl rfl]
  refine wstep_newSlice (by rfl) ?_
  intro nv u1 hnv hnvF hstu1
  have hnv : Own u1 1 nv 5 strsN := hnv
  have hnt := hst.next
  have hnu1 := hstu1.next
  have hcv := hcv.keeps hstu1
  have hmv := hmv.keeps hstu1
  have ht := ht.keeps hstu1
  have hst := hst.trans (hstu1.weaken hnt)
  have hlN : LA.lowL (some [nv]) = true := LA.lowL_sees hnv.sees
  simp (config := { maxSteps := 1000000, implicitDefEqProofs := false }) (disch := omega) only [allW, allR, oneOf, evalAll, partsA, optA, Nat.reduceLT, Nat.reduceLeDiff, Nat.reduceEqDiff, Nat.reduceAdd, ↓reduceIte, hn, h0, h8, h11, h14]
  refine LP.Drawn.looseK (fun _ => false) (fun j h => by cases h) 0 3 [[], [0, 4, 5]] (by kernel_rfl) (by kernel_rfl) ?_
  have hsp := Stay.spare u1 3
  have hnT : (spare u1 3).next = u1.next + 3 := spare_next _ _
  have hm6 : ∀ s, makeSliceA Try.prog s 27 (.int .i64 6) (.int .i64 6) = newSlice s (List.replicate 6 (.int .u8 0)) 6 1 := fun s => makeBytes s 6 (by omega)
  simp (config := { maxSteps := 1000000, implicitDefEqProofs := false }) (disch := omega) only [allW, allR, allL, allP, oneOf, evalAll, partsA, optA, Nat.reduceLT, Nat.reduceLeDiff, Nat.reduceEqDiff, Nat.reduceAdd, ↓reduceIte, List.tail_cons, List.headD_cons, Bool.true_or, Bool.false_or, Nat.reduceBEq, Nat.reduceSub, Nat.sub_self, Nat.add_one_sub_one, hn, h0, h8, h11, h14, bs4, hm6, hlN, hnv.self, hnv.sees.lenA Try.underlying52]
  refine (sbig_any (spare u1 3) 5 2 (by omega) (by omega)).mono ?_
  rintro b1 u2 ⟨hb1, hb1F, hstu2⟩
  refine ⟨fun h => by simp at h, ?_⟩
  simp (config := { maxSteps := 1000000, implicitDefEqProofs := false }) (disch := omega) only [allW, allR, allL, allP, oneOf, evalAll, partsA, optA, Nat.reduceLT, Nat.reduceLeDiff, Nat.reduceEqDiff, Nat.reduceAdd, ↓reduceIte, List.tail_cons, List.headD_cons, Bool.true_or, Bool.false_or, Nat.reduceBEq, Nat.reduceSub, Nat.sub_self, Nat.add_one_sub_one, hn, h0, h8, h11, h14, buildV3 Try.underlying64 szSl zSl rfl ⟨_, rfl⟩ (show (LP.newV u1.next 4 (ofBytes [0, 1, 0, 0])).cells.toList = [LP.newV u1.next 4 (ofBytes [0, 1, 0, 0])] from rfl) hb1.sees.cell1 (show (LP.newV (u1.next + 1) 6 (List.replicate 6 (.int .u8 0))).cells.toList = [LP.newV (u1.next + 1) 6 (List.replicate 6 (.int .u8 0))] from rfl)]
  obtain ⟨V, hV⟩ : ∃ V, V = ((u2.put u1.next (.blk ⟨ofBytes [0, 1, 0, 0], 1, true, 1⟩)).put (u1.next + 1) (.blk ⟨List.replicate 6 (.int .u8 0), 1, true, 1⟩)).put (u1.next + 1 + 1) (.blk ⟨[LP.newV u1.next 4 (ofBytes [0, 1, 0, 0]), b1, LP.newV (u1.next + 1) 6 (List.replicate 6 (.int .u8 0))], 1, true, 1⟩) := ⟨_, rfl⟩
  have hnu2 := hstu2.next
  obtain ⟨p0, p1, p2, pst, pnx, pk⟩ := LP.three (n0 := 4) (n1 := 6) (n2 := 3) hV (by omega) rfl rfl rfl
  rw [← hV]
  have hpb1 := pk b1 _ _ hb1.sees (fun j hj => by have := hb1F j hj; omega)
  rw [← ofBytes_rep] at p1
  have hfl : [[0, 1, 0, 0], be 2 5, List.replicate 6 0].flatten = outTo (partsB un W gl) 0 := by simp [outTo]
  refine (sof_any V _ _ [[0, 1, 0, 0], be 2 5, List.replicate 6 0] p2 (.cons p0 (.cons hpb1 (.cons (a := List.replicate 6 0) p1 (.nil _)))) (Nat.le_of_ble_eq_true rfl) (by rw [hfl, outTo_length _ _ (by omega)]; omega)).mono ?_
  rw [hfl]
  rintro ov u3 ⟨_, hov, hovF, hstu3⟩
  replace hov := hov (by rw [outTo_length _ _ (by omega)]; omega)
  refine ⟨fun h => by simp at h, ?_⟩
  have hst13 : Stay u1.next u1 u3 := ((hsp.trans (hstu2.weaken (by omega))).trans pst).trans (hstu3.weaken (by omega))
  rw [if_pos hov.self]
  have hnu3 := hst13.next
  have hcv := hcv.keeps hst13
  have hmv := hmv.keeps hst13
  have ht := ht.keeps hst13
  have hnv := hnv.keeps hst13
  have hst := hst.trans (hst13.weaken (by omega))
  clear p0 p1 p2 pst pk hpb1 hb1 hb1F hm6 hlN hsp hnT
  have lt8 := ht.load (P := Try.prog) agInt (off := 0) (c := 2) rfl (by simp)
  refine LB.Drawn.looseK (fun j => decide (j = j8)) (fun j h => by have := of_decide_eq_true h; have := ht.lt; omega) 3 1 (by kernel_rfl) (by kernel_rfl) ?_
  have hsp := Stay.spare u3 1
  have hnT : (spare u3 1).next = u3.next + 1 := spare_next _ _
  have hl8 : LA.lowV (fun j => decide (j = j8)) (some (.pointer (some ⟨j8, 0, some 2⟩))) = true := LA.lowV_ptr _ (by simp)
  simp (config := { maxSteps := 1000000, implicitDefEqProofs := false }) (disch := omega) only [allW, allR, allL, allB, Nat.sub_self, Nat.add_one_sub_one, Nat.reduceSub, oneOf, evalAll, partsA, optA, Nat.reduceLT, Nat.reduceLeDiff, Nat.reduceEqDiff, Nat.reduceAdd, ↓reduceIte, hn, h0, h8, h11, h14, hcv.self, valEq_int]
  refine (at_any (spare u3 1) 54 18 un (by omega) (by omega) (by omega)).mono ?_
  rintro hv w1 ⟨hhv, hhvF, hstw1⟩
  have hnw1 := hstw1.next
  refine ⟨fun _ => ⟨hstw1.next, fun j hj => by have := of_decide_eq_true hj; have := ht.lt; exact hstw1.get j (by omega)⟩, ?_⟩
  have htw1 := (ht.keeps hsp).keeps hstw1
  have lw1 := htw1.load (P := Try.prog) agInt (off := 0) (c := 2) rfl (by simp)
  simp (config := { maxSteps := 1000000, implicitDefEqProofs := false }) (disch := omega) only [allW, allR, allL, allB, Nat.sub_self, Nat.add_one_sub_one, Nat.reduceSub, oneOf, evalAll, partsA, optA, Nat.reduceLT, Nat.reduceLeDiff, Nat.reduceEqDiff, Nat.reduceAdd, ↓reduceIte, hn, h0, h8, h11, h14, hl8, lw1, valEq_int]
  refine (at_any w1 36 34 W.length (by omega) (by omega) (by omega)).mono ?_
  rintro ev w2 ⟨hev, hevF, hstw2⟩
  have hnw2 := hstw2.next
  refine ⟨fun _ => ⟨hstw2.next, fun j hj => by have := of_decide_eq_true hj; have := htw1.lt; exact hstw2.get j (by omega)⟩, ?_⟩
  have htw2 := htw1.keeps hstw2
  have lw2 := htw2.load (P := Try.prog) agInt (off := 0) (c := 2) rfl (by simp)
  simp (config := { maxSteps := 1000000, implicitDefEqProofs := false }) (disch := omega) only [allW, allR, allL, allB, Nat.sub_self, Nat.add_one_sub_one, Nat.reduceSub, oneOf, evalAll, partsA, optA, Nat.reduceLT, Nat.reduceLeDiff, Nat.reduceEqDiff, Nat.reduceAdd, ↓reduceIte, hn, h0, h8, h11, h14, hl8, lw2, hmv.self, valEq_int]
  refine (at_any w2 6 4 W.length (by omega) (by omega) (by omega)).mono ?_
  rintro xv w3 ⟨hxv, hxvF, hstw3⟩
  have hnw3 := hstw3.next
  refine ⟨fun _ => ⟨hstw3.next, fun j hj => by have := of_decide_eq_true hj; have := htw2.lt; exact hstw3.get j (by omega)⟩, ?_⟩
  simp (config := { maxSteps := 1000000, implicitDefEqProofs := false }) (disch := omega) only [allW, allR, allL, allB, Nat.sub_self, Nat.add_one_sub_one, Nat.reduceSub, oneOf, evalAll, partsA, optA, Nat.reduceLT, Nat.reduceLeDiff, Nat.reduceEqDiff, Nat.reduceAdd, ↓reduceIte, hn, h0, h8, h11, h14, buildV5 Try.underlying64 szSl zSl rfl ⟨_, rfl⟩ hcv.sees.cell1 hhv.sees.cell1 hev.sees.cell1 hmv.sees.cell1 hxv.sees.cell1]
  refine LB.smake_newSlice (base := u3.next) (by rfl) (by omega) (Nat.le_refl _) ?_
  intro pv w4 hpv hpid hstw4 hnxw4 hotw4
  simp (config := { maxSteps := 1000000, implicitDefEqProofs := false }) (disch := omega) only [allW, allR, allL, allB, Nat.sub_self, Nat.add_one_sub_one, Nat.reduceSub, oneOf, evalAll, partsA, optA, Nat.reduceLT, Nat.reduceLeDiff, Nat.reduceEqDiff, Nat.reduceAdd, ↓reduceIte, hn, h0, h8, h11, h14, hpv.sees.lenA Try.underlying64, LA.lowL_sees hpv.sees, valEq_int]
  have hnu3' := hst.next
  have h1 := hcv.idlt
  have h2 := hmv.idlt
  have h3 := hnv.idlt
  have hstw : Stay u3.next u3 w4 := by
    refine ⟨by omega, fun j hj => ?_⟩
    rw [hotw4 j (by omega), hstw3.get j (by omega), hstw2.get j (by omega), hstw1.get j (by omega)]
    exact hsp.get j hj
  have hcv4 := hcv.keeps hstw
  have hmv4 := hmv.keeps hstw
  have hnv4 := hnv.keeps hstw
  have hov4 := hov.keeps hstw
  have hhv4 := ((hhv.keeps hstw2).keeps hstw3).ofPut hnxw4 hotw4 (fun e => by have := hhvF _ e; omega)
  have hev4 := (hev.keeps hstw3).ofPut hnxw4 hotw4 (fun e => by have := hevF _ e; omega)
  have hxv4 := hxv.ofPut hnxw4 hotw4 (fun e => by have := hxvF _ e; omega)
  obtain ⟨L, hL⟩ : ∃ L, L = partsB un W gl := ⟨_, rfl⟩
  have hP : ∀ t', Stay w4.next w4 t' → Pieces t' [cv, hv, ev, mv, xv] L := fun t' k => by
    rw [hL]
    exact .cons (hcv4.keeps k).sees (.cons (hhv4.keeps k).sees (.cons (hev4.keeps k).sees (.cons (hmv4.keeps k).sees (.cons (hxv4.keeps k).sees (.nil _)))))
  have hpvL : ∀ t', Stay w4.next w4 t' → Sees t' 1 pv 5 [cv, hv, ev, mv, xv] := fun t' k => (hpv.keeps k).sees
  have hnvL : ∀ t', Stay w4.next w4 t' → Sees t' 1 nv 5 strsN := fun t' k => (hnv4.keeps k).sees
  have hL5 : L.length = 5 := by rw [hL]; rfl
  have hst04' : Stay s.next s w4 := hst04.trans ((hst.trans (hstw.weaken (by omega))).weaken n4)
  have hn04 := hst04'.next
  have hpl : ∀ k, k < 5 → (L.getD k []).length ≤ 4000 := fun k hk => by rw [hL]; exact parts_le (by omega) hk
  have hbl : ∀ k, k ≤ 5 → (bodyTo L k).length ≤ 4003 * k := fun k hk => by rw [hL]; exact body_le (by omega) k hk
  rw [← hL] at hov4
  clear hcv4 hmv4 hnv4 hhv4 hev4 hxv4 hpv
  refine Comes.loopOut (fun z f t => ∃ (k : Nat) (ov bv : Value), z = 5 - k ∧ k ≤ 5 ∧ Own t 1 ov (outTo L k).length (ofBytes (outTo L k)) ∧ Own t 1 bv (bodyTo L k).length (ofBytes (bodyTo L k)) ∧ Fresh w4.next bv ∧ (∀ i, idOf bv = some i → idOf ov ≠ some i) ∧ Stay w4.next w4 t ∧ f.n = 147 ∧ f.get 17 = nv ∧ f.get 18 = ov ∧ f.get 19 = bv ∧ f.get 105 = pv ∧ f.get 106 = .int .i64 5 ∧ f.get 107 = .int .i64 (k : Nat))
    (fun z f t => z = .exit 4 ∧ ∃ ov bv : Value, Own t 1 ov (outTo L 5).length (ofBytes (outTo L 5)) ∧ Own t 1 bv (bodyTo L 5).length (ofBytes (bodyTo L 5)) ∧ Stay w4.next w4 t ∧ f.n = 147 ∧ f.get 18 = ov ∧ f.get 19 = bv)
    ⟨0, ov, .slice none 0 0, rfl, by omega, hov4, .nil, Fresh.nil _, (fun i h => by cases h), Stay.refl _ _, by simp only [get_put, n_put, ↓reduceIte, Nat.reduceEqDiff, hn], by simp only [get_put, n_put, ↓reduceIte, Nat.reduceEqDiff], by simp only [get_put, n_put, ↓reduceIte, Nat.reduceEqDiff], by simp only [get_put, n_put, ↓reduceIte, Nat.reduceEqDiff], by simp only [get_put, n_put, ↓reduceIte, Nat.reduceEqDiff], by simp only [get_put, n_put, ↓reduceIte, Nat.reduceEqDiff]; rfl, by simp only [get_put, n_put, ↓reduceIte, Nat.reduceEqDiff]; rfl⟩ ?_ ?_
  · clear hn h0 h8 h11 h14 f hov4
    rintro Q hQ z f t ⟨k, ov, bv, rfl, hk, hov, hbv, hbvF, hob, hst, hn, h17, h18, h19, h105, h106, h107⟩
    by_cases hlt : k < 5
    rotate_left
    · obtain rfl : k = 5 := by omega
      have d : ¬ ((5 : Nat) : Int) < 5 := by omega
      simp (config := { maxSteps := 1000000, implicitDefEqProofs := false }) (disch := omega) only [allW, allR, oneOf, evalAll, partsA, optA, Nat.reduceLT, Nat.reduceLeDiff, Nat.reduceEqDiff, Nat.reduceAdd, ↓reduceIte, undef, hn, h17, h18, h19, h105, h106, h107, eq_false d]
      exact hQ _ _ _ ⟨rfl, ov, bv, hov, hbv, hst, by simp only [get_put, n_put, ↓reduceIte, Nat.reduceEqDiff, hn], by simp only [get_put, n_put, ↓reduceIte, Nat.reduceEqDiff, h18], by simp only [get_put, n_put, ↓reduceIte, Nat.reduceEqDiff, h19]⟩
    have d : (k : Int) < 5 := by omega
    have hnt := hst.next
    have hpt := hpvL t hst
    have hPt := hP t hst
    have hnvt := hnvL t hst
    have hix := hpt.indexAddr (P := Try.prog) (k := .i64) (x := (k : Int)) Try.underlying64 szSl (by omega) (by omega)
    rw [Int.toNat_natCast] at hix
    have hld := hpt.load1 (P := Try.prog) agSl hlt
    obtain ⟨b, hb⟩ : ∃ b, b = [cv, hv, ev, mv, xv].getD k undef := ⟨_, rfl⟩
    have hbs : ∀ t', Stay w4.next w4 t' → Sees t' 1 b (L.getD k []).length (ofBytes (L.getD k [])) := fun t' h => by
      have := (hP t' h).sees k (by omega)
      rw [← hb] at this
      simpa [List.getD, List.getElem?_eq_getElem (show k < L.length by omega)] using this
    rw [← hb] at hld
    have hnx := hnvt.indexAddr (P := Try.prog) (k := .i64) (x := (k : Int)) Try.underlying52 sfSzStr (by omega) (by omega)
    rw [Int.toNat_natCast] at hnx
    have hnl := hnvt.load1 (P := Try.prog) sfAgStr hlt
    rw [strsN_at hlt] at hnl
    simp (config := { maxSteps := 1000000, implicitDefEqProofs := false }) (disch := omega) only [allW, allR, oneOf, evalAll, partsA, optA, Nat.reduceLT, Nat.reduceLeDiff, Nat.reduceEqDiff, Nat.reduceAdd, ↓reduceIte, undef, hn, h17, h18, h19, h105, h106, h107, eq_true d, hix, hld]
    refine LP.Drawn.looseK (fun j => decide (j < t.next)) (fun j h => of_decide_eq_true h) 2 3 [[], [], [5, 6, 18]] (by kernel_rfl) (by kernel_rfl) ?_
    have hsp := Stay.spare t 3
    have hnT : (spare t 3).next = t.next + 3 := spare_next _ _
    have hstS := hst.trans (hsp.weaken hnt)
    have hnlS := (hnvL _ hstS).load1 (P := Try.prog) sfAgStr hlt
    rw [strsN_at hlt] at hnlS
    obtain ⟨nmk, hnmk⟩ : ∃ n, n = namesB.getD k [] := ⟨_, rfl⟩
    have hnm4 : nmk.length = 4 := by
      have : k = 0 ∨ k = 1 ∨ k = 2 ∨ k = 3 ∨ k = 4 := by omega
      rw [hnmk]
      rcases this with rfl | rfl | rfl | rfl | rfl <;> rfl
    rw [← hnmk] at hnlS
    have hlwn : LA.lowV (fun j => decide (j < t.next)) (some (elemPtr 1 nv k)) = true := LA.lowV_elemOld hnvt (fun i hi => decide_eq_true hi) hlt
    have hm4 : ∀ s, makeSliceA Try.prog s 27 (.int .i64 4) (.int .i64 4) = newSlice s (List.replicate 4 (.int .u8 0)) 4 1 := fun s => makeBytes s 4 (by omega)
    have hbk := hbl k hk
    have hpk := hpl k hlt
    have k1 : 12 + 16 * ((5 : Nat) : Int) + ((bodyTo L k).length : Int) = ((92 + (bodyTo L k).length : Nat) : Int) := by omega
    have hbt := hbs t hst
    simp (config := { maxSteps := 1000000, implicitDefEqProofs := false }) (disch := omega) only [allW, allR, allL, allP, oneOf, evalAll, partsA, optA, Nat.reduceLT, Nat.reduceLeDiff, Nat.reduceEqDiff, Nat.reduceAdd, ↓reduceIte, List.tail_cons, List.headD_cons, Bool.true_or, Bool.false_or, Nat.reduceBEq, Nat.reduceSub, Nat.sub_self, Nat.add_one_sub_one, hn, h17, h18, h19, h105, h106, h107, hnx, hlwn, hnlS, hov.self, hbv.self, hbt.self, hnvt.self, valEq_elemPtr, valEq_string, valEq_int, sfTc, str_bytes Try.underlying9 Try.underlying27 Try.underlying5, hm4, hnvt.lenA Try.underlying52, hbv.sees.lenA Try.underlying27, hbt.lenA Try.underlying27, LA.lowL_sees hnvt, LA.lowL_sees hbv.sees, LA.lowL_sees hbt, wrapI, k1]
    refine (sbig_any (spare t 3) (92 + (bodyTo L k).length) 4 (by omega) (by omega)).mono ?_
    rintro b1 t1 ⟨hb1, hb1F, hst1⟩
    refine ⟨fun _ => LA.Stay.toA (fun i hi => of_decide_eq_true hi) (hst1.weaken (by omega)), ?_⟩
    refine (sbig_any t1 (L.getD k []).length 4 (by omega) (by omega)).mono ?_
    rintro b2 t2 ⟨hb2, hb2F, hst2⟩
    have hnt1 := hst1.next
    have hnt2 := hst2.next
    refine ⟨fun _ => LA.Stay.toA (fun i hi => of_decide_eq_true hi) (hst2.weaken (by omega)), ?_⟩
    simp (config := { maxSteps := 1000000, implicitDefEqProofs := false }) (disch := omega) only [allW, allR, allL, allP, oneOf, evalAll, partsA, optA, Nat.reduceLT, Nat.reduceLeDiff, Nat.reduceEqDiff, Nat.reduceAdd, ↓reduceIte, List.tail_cons, List.headD_cons, Bool.true_or, Bool.false_or, Nat.reduceBEq, Nat.reduceSub, Nat.sub_self, Nat.add_one_sub_one, hn, h17, h18, h19, h105, h106, h107, buildV5 Try.underlying64 szSl zSl rfl ⟨_, rfl⟩ hov.sees.cell1 (show (LP.newV t.next nmk.length (ofBytes nmk)).cells.toList = [LP.newV t.next nmk.length (ofBytes nmk)] from rfl) (show (LP.newV (t.next + 1) 4 (List.replicate 4 (.int .u8 0))).cells.toList = [LP.newV (t.next + 1) 4 (List.replicate 4 (.int .u8 0))] from rfl) hb1.sees.cell1 hb2.sees.cell1]
    obtain ⟨V, hV⟩ : ∃ V, V = ((t2.put t.next (.blk ⟨ofBytes nmk, 1, true, 1⟩)).put (t.next + 1) (.blk ⟨List.replicate 4 (.int .u8 0), 1, true, 1⟩)).put (t.next + 1 + 1) (.blk ⟨[ov, LP.newV t.next nmk.length (ofBytes nmk), LP.newV (t.next + 1) 4 (List.replicate 4 (.int .u8 0)), b1, b2], 1, true, 1⟩) := ⟨_, rfl⟩
    obtain ⟨p0, p1, p2, pst, pnx, pq⟩ := LP.three (n0 := nmk.length) (n1 := 4) (n2 := 5) hV (by omega) (by rw [ofBytes_length]; omega) rfl rfl
    rw [← hV]
    have hov2 := ((hov.keeps hsp).keeps hst1).keeps hst2
    have q0 := pq ov _ _ hov2.sees (fun j hj => by have := hov.idlt j hj; omega)
    have q1 := pq b1 _ _ (hb1.keeps hst2).sees (fun j hj => by have := hb1F j hj; omega)
    have q2 := pq b2 _ _ hb2.sees (fun j hj => by have := hb2F j hj; omega)
    rw [← ofBytes_rep] at p1
    have hfl : [outTo L k, nmk, List.replicate 4 0, be 4 (92 + (bodyTo L k).length), be 4 (L.getD k []).length].flatten = outTo L (k + 1) := by
      rw [outTo, rowB, ← hnmk]; simp [List.append_assoc, List.replicate]
    have hol := outTo_length L (k + 1) hlt
    refine (sof_any V _ _ [outTo L k, nmk, List.replicate 4 0, be 4 (92 + (bodyTo L k).length), be 4 (L.getD k []).length] p2 (.cons q0 (.cons p0 (.cons (a := List.replicate 4 0) p1 (.cons q1 (.cons q2 (.nil _)))))) (Nat.le_of_ble_eq_true rfl) (by rw [hfl, hol]; omega)).mono ?_
    rw [hfl]
    rintro ov' t3 ⟨_, hov', hovF', hst3⟩
    replace hov' := hov' (by rw [hol]; omega)
    have hnt3 := hst3.next
    refine ⟨fun h => by simp at h, ?_⟩
    have hstt3 : Stay t.next t t3 := (((hsp.trans (hst1.weaken (by omega))).trans (hst2.weaken (by omega))).trans pst).trans (hst3.weaken (by omega))
    have hbv3 := hbv.keeps hstt3
    have hst3' := hst.trans (hstt3.weaken hnt)
    clear p0 p1 p2 pst pq q0 q1 q2 hb1 hb1F hb2 hb2F
    simp (config := { maxSteps := 1000000, implicitDefEqProofs := false }) (disch := omega) only [allW, allR, allL, allP, oneOf, evalAll, partsA, optA, Nat.reduceLT, Nat.reduceLeDiff, Nat.reduceEqDiff, Nat.reduceAdd, ↓reduceIte, List.tail_cons, List.headD_cons, Bool.true_or, Bool.false_or, Nat.reduceBEq, Nat.reduceSub, Nat.sub_self, Nat.add_one_sub_one, hn, h17, h18, h19, h105, h106, h107, hov'.self]
    have hbs3 := hbs t3 hst3'
    have hnw3 := hst3'.next
    have hobi : ∀ i, idOf bv = some i → idOf ov' ≠ some i := fun i hi e => by have := hbv.idlt i hi; have := hovF' i e; omega
    refine wstep_append Try.underlying27 Try.underlying27 (.inl ⟨_, rfl⟩) szU8 byU8 zU8 rfl hbv3 hbs3.src (by rw [ofBytes_length]; omega) (by decide) (ofBytes_ok _) (by omega) (by omega) hbvF hnw3 ?_
    intro bv1 t4 hbv1 hF1 hst4 hut4 hor4
    have hov4 := hov'.turns hut4 (fun i hi e => hobi i e hi)
    have hob4 : ∀ i, idOf bv1 = some i → idOf ov' ≠ some i := fun i hi e => by
      rcases hor4 with h | ⟨x, h, hx⟩
      · exact hobi i (by rw [← h]; exact hi) e
      · rw [h] at hi; injection hi with hi; have := hov'.idlt i e; omega
    rw [← ofBytes_append, ← List.length_append] at hbv1
    have hb1l : (bodyTo L k ++ L.getD k []).length ≤ 25000 := by rw [List.length_append]; omega
    have hn4' := hst4.next
    have hpd := padB_lt (bodyTo L k ++ L.getD k []).length
    have kp : ((4 - ((bodyTo L k ++ L.getD k []).length : Int).tmod 4).tmod 4) = ((padB (bodyTo L k ++ L.getD k []).length : Nat) : Int) := by
      have hx : ((bodyTo L k ++ L.getD k []).length : Int).tmod 4 = ((bodyTo L k ++ L.getD k []).length : Int) % 4 := Int.tmod_eq_emod_of_nonneg (by omega)
      unfold padB
      rw [hx, Int.tmod_eq_emod_of_nonneg (by omega)]
      omega
    have kq : -9223372036854775808 ≤ (4 - ((bodyTo L k ++ L.getD k []).length : Int).tmod 4) ∧ (4 - ((bodyTo L k ++ L.getD k []).length : Int).tmod 4) ≤ 9223372036854775807 := by
      rw [Int.tmod_eq_emod_of_nonneg (by omega)]
      omega
    simp (config := { maxSteps := 1000000, implicitDefEqProofs := false }) (disch := omega) only [allW, allR, allL, allP, oneOf, evalAll, partsA, optA, Nat.reduceLT, Nat.reduceLeDiff, Nat.reduceEqDiff, Nat.reduceAdd, ↓reduceIte, List.tail_cons, List.headD_cons, Bool.true_or, Bool.false_or, Nat.reduceBEq, Nat.reduceSub, Nat.sub_self, Nat.add_one_sub_one, hn, h17, h105, h106, h107, hbv1.sees.lenA Try.underlying27, bin_rem, wrapI, kq, kp]
    refine wstep_appendZ Try.underlying27 Try.underlying3 szU8 byU8 zU8 rfl rfl rfl hbv1 (by omega) (by omega) hF1 (by omega) ?_
    intro bv2 t5 hbv2 hF2 hst5 hut5 hor5
    have hov5 := hov4.turns hut5 (fun i hi e => hob4 i e hi)
    have hob5 : ∀ i, idOf bv2 = some i → idOf ov' ≠ some i := fun i hi e => by
      rcases hor5 with h | ⟨x, h, hx⟩
      · exact hob4 i (by rw [← h]; exact hi) e
      · rw [h] at hi; injection hi with hi; have := hov4.idlt i e; omega
    rw [← ofBytes_rep, ← ofBytes_append, show (bodyTo L k ++ L.getD k []).length + padB (bodyTo L k ++ L.getD k []).length = (bodyTo L (k + 1)).length by rw [bodyTo]; simp only [List.length_append, List.length_replicate]] at hbv2
    have hbv2 : Own t5 1 bv2 (bodyTo L (k + 1)).length (ofBytes (bodyTo L (k + 1))) := hbv2
    simp (config := { maxSteps := 1000000, implicitDefEqProofs := false }) (disch := omega) only [allW, allR, allL, allP, oneOf, evalAll, partsA, optA, Nat.reduceLT, Nat.reduceLeDiff, Nat.reduceEqDiff, Nat.reduceAdd, ↓reduceIte, List.tail_cons, List.headD_cons, Bool.true_or, Bool.false_or, Nat.reduceBEq, Nat.reduceSub, Nat.sub_self, Nat.add_one_sub_one, hn, h17, h105, h106, h107, wrapI]
    exact wround_next (5 - (k + 1)) (by omega) ⟨k + 1, ov', bv2, rfl, by omega, hov5, hbv2, hF2, hob5, hst3'.trans (hst4.trans hst5), by simp only [get_put, n_put, ↓reduceIte, Nat.reduceEqDiff, hn], by simp only [get_put, n_put, ↓reduceIte, Nat.reduceEqDiff, h17], by simp only [get_put, n_put, ↓reduceIte, Nat.reduceEqDiff], by simp only [get_put, n_put, ↓reduceIte, Nat.reduceEqDiff], by simp only [get_put, n_put, ↓reduceIte, Nat.reduceEqDiff, h105], by simp only [get_put, n_put, ↓reduceIte, Nat.reduceEqDiff, h106], by simp only [get_put, n_put, ↓reduceIte, Nat.reduceEqDiff]; rfl⟩
  clear hn h0 h8 h11 h14 f hov4
  rintro z f t ⟨rfl, ov, bv, hov, hbv, hst, hn, h18, h19⟩
  have hbk := hbl 5 (by omega)
  have hol := outTo_length L 5 (by omega)
  simp (config := { maxSteps := 1000000, implicitDefEqProofs := false }) (disch := omega) only [allW, allR, oneOf, evalAll, partsA, optA, Nat.reduceLT, Nat.reduceLeDiff, Nat.reduceEqDiff, Nat.reduceAdd, ↓reduceIte, hn, h18, h19, buildV2 Try.underlying64 szSl zSl rfl ⟨_, rfl⟩ hov.sees.cell1 hbv.sees.cell1]
  refine wstep_newSlice (by rfl) ?_
  intro lv t1 hlv hlvF hst1
  have hfl : [outTo L 5, bodyTo L 5].flatten = fontB un W gl := by rw [hL]; simp [fontB]
  simp (config := { maxSteps := 1000000, implicitDefEqProofs := false }) (disch := omega) only [allW, allR, oneOf, evalAll, partsA, optA, Nat.reduceLT, Nat.reduceLeDiff, Nat.reduceEqDiff, Nat.reduceAdd, ↓reduceIte, hn, h18, h19]
  refine (sof_any t1 lv _ [outTo L 5, bodyTo L 5] hlv.sees (.cons (hov.keeps hst1).sees (.cons (hbv.keeps hst1).sees (.nil _))) (Nat.le_of_ble_eq_true rfl) (by simp; omega)).mono ?_
  rw [hfl]
  rintro B t2 ⟨_, hB, hBF, hst2⟩
  have hfn : 0 < (fontB un W gl).length := by rw [← hfl]; simp; omega
  have hn1 := hst1.next
  have hnt := hst.next
  simp (config := { maxSteps := 1000000, implicitDefEqProofs := false }) (disch := omega) only [allW, allR, wfn_ret, wfn_normal, oneOf, evalAll, partsA, optA, Nat.reduceLT, Nat.reduceLeDiff, Nat.reduceEqDiff, Nat.reduceAdd, ↓reduceIte, hn, Try.results9]
  refine ⟨.inr ⟨hgood, B, rfl, ?_, fun i hi => by have := hBF i hi; omega⟩, hst04'.trans ((hst.weaken hn04).trans ((hst1.weaken (by omega)).trans (hst2.weaken (by omega))))⟩
  rw [Int.toNat_natCast]
  exact hB hfn
end Go.Proofs.Ytpdkppimlcbhlaa
