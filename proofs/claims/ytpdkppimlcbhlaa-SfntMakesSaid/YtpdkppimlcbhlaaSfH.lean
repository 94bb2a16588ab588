/-
  Fonts in tables, the reference: each code's glyph.
-/
import Derived.Test.YtpdkppimlcbhlaaSfG
set_option linter.unusedSimpArgs false
set_option linter.unusedVariables false
set_option maxRecDepth 100000
namespace Go.Proofs.Ytpdkppimlcbhlaa
open Go.Cl Go.Cl.Sf
theorem rf0 (i o c : Nat) : fieldAddrA Try.prog 72 (.pointer (some ⟨i, o, some c⟩)) 0 = some (.pointer (some ⟨i, o + 0, some c⟩)) := by
  unfold fieldAddrA; rw [Try.underlying72]; simp [szInt, szInts]
theorem rf1 (i o c : Nat) : fieldAddrA Try.prog 72 (.pointer (some ⟨i, o, some c⟩)) 1 = some (.pointer (some ⟨i, o + 1, some c⟩)) := by
  unfold fieldAddrA; rw [Try.underlying72]; simp [szInt, szInts]
theorem rf2 (i o c : Nat) : fieldAddrA Try.prog 72 (.pointer (some ⟨i, o, some c⟩)) 2 = some (.pointer (some ⟨i, o + 2, some c⟩)) := by
  unfold fieldAddrA; rw [Try.underlying72]; simp [szInt, szInts]
theorem rf3 (i o c : Nat) : fieldAddrA Try.prog 72 (.pointer (some ⟨i, o, some c⟩)) 3 = some (.pointer (some ⟨i, o + 3, some c⟩)) := by
  unfold fieldAddrA; rw [Try.underlying72]; simp [szInt, szInts]
/-- What the reference's codes leaves. -/
def RCodIs (s : ASt) (q : Nat) (U G w : Value) (v : Value) (s' : ASt) : Except Nat (List Nat) → Prop
  | .error e => v = .tuple #[.pointer none, .int .i64 (e : Nat)] ∧ CTo [q] s s'
  | .ok m => v = .tuple #[fptr q, .int .i64 0] ∧ CTo [q] s s' ∧ ∃ g, Thing s' q [U, G, w, g] ∧ Own s' 1 g m.length (natsV m) ∧ Fresh s.next g
theorem conv_u8 (s : ASt) (x : UInt8) : convA Try.prog s 5 3 (.int .u8 (x.toNat : Int)) = some (.int .i64 (x.toNat : Int), s) := by
  rw [conv_int Try.underlying5 Try.underlying3, wrapI]
  have := x.toNat_lt
  omega
set_option maxHeartbeats 32000000 in
theorem rcodes_any (s : ASt) (q : Nat) (U : Value) (G : Nat) (w : Value) (y : Value) (c : List UInt8) (hy : Low q s 1 y c.length (ofBytes c)) (hq : Thing s q [U, .int .i64 (G : Nat), w, .slice none 0 0]) (hlen : c.length ≤ 100000000) :
    Runs Try.prog libN 29 [fptr q, y] s fun v s' => RCodIs s q U (.int .i64 (G : Nat)) w v s' (cmapX 8 G c) := by
  refine Runs.enter 100 Try.func29 rfl rfl rfl rfl ?_
  intro f hn hf
  have h0 : f.get 0 = fptr q := hf 0
  have h1 : f.get 1 = y := hf 1
  clear hf
  have hql := hq.lt
  have hys := hy.sees
  have hbad : ∀ (f : AFr), f.n = 100 → (c.length < 4 ∨ c.length < 4 + 8 * half c 2) → f.get 4 = .pointer none → f.get 5 = .int .i64 4 → wfn Try.prog (Try.f29).results.toList (fun v s' => RCodIs s q U (.int .i64 (G : Nat)) w v s' (cmapX 8 G c)) .ret f s := by
    intro f hn hc h4 h5
    have hr : cmapX 8 G c = .error 4 := by unfold cmapX; rw [if_pos hc]
    simp only [allW, allR, wfn_ret, wfn_normal, oneOf, evalAll, partsA, optA, Nat.reduceLT, Nat.reduceLeDiff, Nat.reduceEqDiff, Nat.reduceAdd, ↓reduceIte, hn, h4, h5, hr, RCodIs, Try.results29]
    exact ⟨rfl, CTo.refl _ _⟩
  by_cases k1 : c.length < 4
  · have d1 : (c.length : Int) < 4 := by omega
    simp (config := { maxSteps := 1000000, implicitDefEqProofs := false }) (disch := omega) only [allW, allR, oneOf, evalAll, partsA, optA, Nat.reduceLT, Nat.reduceLeDiff, Nat.reduceEqDiff, Nat.reduceAdd, ↓reduceIte, undef, hn, h0, h1, hys.lenA Try.underlying27, eq_true d1]
    exact hbad _ (by simp only [get_put, n_put, ↓reduceIte, Nat.reduceEqDiff, hn]) (.inl k1) (by simp only [get_put, n_put, ↓reduceIte, Nat.reduceEqDiff]) (by simp only [get_put, n_put, ↓reduceIte, Nat.reduceEqDiff])
  have d1 : ¬ (c.length : Int) < 4 := by omega
  simp (config := { maxSteps := 1000000, implicitDefEqProofs := false }) (disch := omega) only [allW, allR, oneOf, evalAll, partsA, optA, Nat.reduceLT, Nat.reduceLeDiff, Nat.reduceEqDiff, Nat.reduceAdd, ↓reduceIte, undef, hn, h0, h1, hys.lenA Try.underlying27, eq_false d1]
  refine (rhalf_any s y c 2 hys (by omega) (by omega)).mono ?_
  rintro _ s1 ⟨rfl, hs⟩; subst hs
  obtain ⟨M, hM⟩ : ∃ n, n = half c 2 := ⟨_, rfl⟩
  have hMl : M < 65536 := hM ▸ half_lt c 2
  rw [← hM] at hbad ⊢
  by_cases k2 : c.length < 4 + 8 * M
  · have d2 : (c.length : Int) < 4 + 8 * (M : Int) := by omega
    simp (config := { maxSteps := 1000000, implicitDefEqProofs := false }) (disch := omega) only [allW, allR, oneOf, evalAll, partsA, optA, Nat.reduceLT, Nat.reduceLeDiff, Nat.reduceEqDiff, Nat.reduceAdd, ↓reduceIte, undef, hn, h0, h1, eq_true d2, wrapI]
    exact hbad _ (by simp only [get_put, n_put, ↓reduceIte, Nat.reduceEqDiff, hn]) (.inr k2) (by simp only [get_put, n_put, ↓reduceIte, Nat.reduceEqDiff]) (by simp only [get_put, n_put, ↓reduceIte, Nat.reduceEqDiff])
  have d2 : ¬ (c.length : Int) < 4 + 8 * (M : Int) := by omega
  have hif : cmapX 8 G c = cmapF 8 G c M 0 := by unfold cmapX; rw [← hM, if_neg (by simp [k1, k2])]
  simp (config := { maxSteps := 1000000, implicitDefEqProofs := false }) (disch := omega) only [allW, allR, oneOf, evalAll, partsA, optA, Nat.reduceLT, Nat.reduceLeDiff, Nat.reduceEqDiff, Nat.reduceAdd, ↓reduceIte, undef, hn, h0, h1, eq_false d2, wrapI]
  refine Comes.loopAt (fun z f t => ∃ k : Nat, z = M - k ∧ k ≤ M ∧ t = s1 ∧ cmapX 8 G c = cmapF 8 G c (M - k) k ∧ f.n = 100 ∧ f.get 0 = fptr q ∧ f.get 1 = y ∧ f.get 6 = .int .i64 (k : Nat))
    ⟨0, rfl, by omega, rfl, hif, by simp only [get_put, n_put, ↓reduceIte, Nat.reduceEqDiff, hn], by simp only [get_put, n_put, ↓reduceIte, Nat.reduceEqDiff, h0], by simp only [get_put, n_put, ↓reduceIte, Nat.reduceEqDiff, h1], by simp only [get_put, n_put, ↓reduceIte, Nat.reduceEqDiff]; rfl⟩ ?_
  clear hn h0 h1 f hif
  rintro z f t ⟨k, rfl, hk, rfl, hif, hn, h0, h1, h6⟩
  simp (config := { maxSteps := 1000000, implicitDefEqProofs := false }) (disch := omega) only [allW, allR, oneOf, evalAll, partsA, optA, Nat.reduceLT, Nat.reduceLeDiff, Nat.reduceEqDiff, Nat.reduceAdd, ↓reduceIte, undef, hn, h0, h1, h6]
  refine (rhalf_any t y c 2 hys (by omega) (by omega)).mono ?_
  rintro _ t1 ⟨rfl, hs⟩; subst hs
  rw [← hM]
  by_cases hlt : k < M
  rotate_left
  · obtain rfl : k = M := by omega
    have d : ¬ (k : Int) < (k : Int) := by omega
    rw [Nat.sub_self, cmapF] at hif
    simp (config := { maxSteps := 1000000, implicitDefEqProofs := false }) (disch := omega) only [allW, allR, wfn_ret, wfn_normal, oneOf, evalAll, partsA, optA, Nat.reduceLT, Nat.reduceLeDiff, Nat.reduceEqDiff, Nat.reduceAdd, ↓reduceIte, hn, h0, h1, h6, eq_false d, Try.results29]
    rw [hif]
    exact ⟨rfl, CTo.refl _ _⟩
  have d : (k : Int) < (M : Int) := by omega
  rw [show M - k = (M - (k + 1)) + 1 by omega, cmapF] at hif
  simp (config := { maxSteps := 1000000, implicitDefEqProofs := false }) (disch := omega) only [allW, allR, oneOf, evalAll, partsA, optA, Nat.reduceLT, Nat.reduceLeDiff, Nat.reduceEqDiff, Nat.reduceAdd, ↓reduceIte, undef, hn, h0, h1, h6, eq_true d, wrapI]
  rw [show (4 + 8 * (k : Int)) = ((4 + 8 * k : Nat) : Int) by omega]
  refine (rhalf_any t1 y c (4 + 8 * k) hys (by omega) (by omega)).mono ?_
  rintro _ t2 ⟨rfl, hs⟩; subst hs
  by_cases c1 : half c (4 + 8 * k) = 1
  rotate_left
  · have e1 : ((half c (4 + 8 * k) : Nat) : Int) ≠ 1 := by omega
    rw [if_neg (fun h => c1 h.1)] at hif
    simp (config := { maxSteps := 1000000, implicitDefEqProofs := false }) (disch := omega) only [allW, allR, oneOf, evalAll, partsA, optA, Nat.reduceLT, Nat.reduceLeDiff, Nat.reduceEqDiff, Nat.reduceAdd, ↓reduceIte, undef, hn, h0, h1, h6, decide_eq_true e1, bin_neq, wrapI]
    exact wround_next (M - (k + 1)) (by omega) ⟨k + 1, rfl, by omega, rfl, hif, by simp only [get_put, n_put, ↓reduceIte, Nat.reduceEqDiff, hn], by simp only [get_put, n_put, ↓reduceIte, Nat.reduceEqDiff, h0], by simp only [get_put, n_put, ↓reduceIte, Nat.reduceEqDiff, h1], by simp only [get_put, n_put, ↓reduceIte, Nat.reduceEqDiff]; rfl⟩
  have e1 : ¬ ((half c (4 + 8 * k) : Nat) : Int) ≠ 1 := by omega
  simp (config := { maxSteps := 1000000, implicitDefEqProofs := false }) (disch := omega) only [allW, allR, oneOf, evalAll, partsA, optA, Nat.reduceLT, Nat.reduceLeDiff, Nat.reduceEqDiff, Nat.reduceAdd, ↓reduceIte, undef, hn, h0, h1, h6, decide_eq_false e1, bin_neq, wrapI]
  rw [show (((4 + 8 * k : Nat) : Int) + 2) = ((4 + 8 * k + 2 : Nat) : Int) by omega]
  refine (rhalf_any t2 y c (4 + 8 * k + 2) hys (by omega) (by omega)).mono ?_
  rintro _ t3 ⟨rfl, hs⟩; subst hs
  by_cases c2 : half c (4 + 8 * k + 2) = 0
  rotate_left
  · have e2 : ((half c (4 + 8 * k + 2) : Nat) : Int) ≠ 0 := by omega
    rw [if_neg (fun h => c2 h.2)] at hif
    simp (config := { maxSteps := 1000000, implicitDefEqProofs := false }) (disch := omega) only [allW, allR, oneOf, evalAll, partsA, optA, Nat.reduceLT, Nat.reduceLeDiff, Nat.reduceEqDiff, Nat.reduceAdd, ↓reduceIte, undef, hn, h0, h1, h6, decide_eq_true e2, bin_neq, wrapI]
    exact wround_next (M - (k + 1)) (by omega) ⟨k + 1, rfl, by omega, rfl, hif, by simp only [get_put, n_put, ↓reduceIte, Nat.reduceEqDiff, hn], by simp only [get_put, n_put, ↓reduceIte, Nat.reduceEqDiff, h0], by simp only [get_put, n_put, ↓reduceIte, Nat.reduceEqDiff, h1], by simp only [get_put, n_put, ↓reduceIte, Nat.reduceEqDiff]; rfl⟩
  have e2 : ¬ ((half c (4 + 8 * k + 2) : Nat) : Int) ≠ 0 := by omega
  rw [if_pos ⟨c1, c2⟩] at hif
  simp (config := { maxSteps := 1000000, implicitDefEqProofs := false }) (disch := omega) only [allW, allR, oneOf, evalAll, partsA, optA, Nat.reduceLT, Nat.reduceLeDiff, Nat.reduceEqDiff, Nat.reduceAdd, ↓reduceIte, undef, hn, h0, h1, h6, decide_eq_false e2, bin_neq, wrapI]
  rw [show (((4 + 8 * k : Nat) : Int) + 4) = ((4 + 8 * k + 4 : Nat) : Int) by omega]
  refine (rword_any t3 y c (4 + 8 * k + 4) hys (by omega) (by omega)).mono ?_
  rintro _ t4 ⟨rfl, hs⟩; subst hs
  obtain ⟨p, hp⟩ : ∃ n, n = word c (4 + 8 * k + 4) := ⟨_, rfl⟩
  have hpl : p < 4294967296 := hp ▸ word_lt c _
  rw [← hp] at hif ⊢
  have hfail : ∀ (f : AFr), f.n = 100 → (c.length < p ∨ c.length - p < 262 ∨ half c p ≠ 0 ∨ half c (p + 2) ≠ 262) → f.get 4 = .pointer none → f.get 5 = .int .i64 4 → wfn Try.prog (Try.f29).results.toList (fun v s' => RCodIs t4 q U (.int .i64 (G : Nat)) w v s' (cmapX 8 G c)) .ret f t4 := by
    intro f hn hc h4 h5
    have hr : mapX G c p = .error 4 := by unfold mapX; rw [if_pos hc]
    rw [hr] at hif
    simp only [allW, allR, wfn_ret, wfn_normal, oneOf, evalAll, partsA, optA, Nat.reduceLT, Nat.reduceLeDiff, Nat.reduceEqDiff, Nat.reduceAdd, ↓reduceIte, hn, h4, h5, hif, RCodIs, Try.results29]
    exact ⟨rfl, CTo.refl _ _⟩
  by_cases k3 : c.length < p
  · simp (config := { maxSteps := 1000000, implicitDefEqProofs := false }) (disch := omega) only [allW, allR, oneOf, evalAll, partsA, optA, Nat.reduceLT, Nat.reduceLeDiff, Nat.reduceEqDiff, Nat.reduceAdd, ↓reduceIte, undef, hn, h0, h1, h6, hys.lenA Try.underlying27, eq_true k3]
    exact hfail _ (by simp only [get_put, n_put, ↓reduceIte, Nat.reduceEqDiff, hn]) (.inl k3) (by simp only [get_put, n_put, ↓reduceIte, Nat.reduceEqDiff]) (by simp only [get_put, n_put, ↓reduceIte, Nat.reduceEqDiff])
  by_cases k4 : c.length - p < 262
  · have e4 : (c.length : Int) - (p : Int) < 262 := by omega
    simp (config := { maxSteps := 1000000, implicitDefEqProofs := false }) (disch := omega) only [allW, allR, oneOf, evalAll, partsA, optA, Nat.reduceLT, Nat.reduceLeDiff, Nat.reduceEqDiff, Nat.reduceAdd, ↓reduceIte, undef, hn, h0, h1, h6, hys.lenA Try.underlying27, eq_false k3, eq_true e4, wrapI]
    exact hfail _ (by simp only [get_put, n_put, ↓reduceIte, Nat.reduceEqDiff, hn]) (.inr (.inl k4)) (by simp only [get_put, n_put, ↓reduceIte, Nat.reduceEqDiff]) (by simp only [get_put, n_put, ↓reduceIte, Nat.reduceEqDiff])
  have e4 : ¬ (c.length : Int) - (p : Int) < 262 := by omega
  simp (config := { maxSteps := 1000000, implicitDefEqProofs := false }) (disch := omega) only [allW, allR, oneOf, evalAll, partsA, optA, Nat.reduceLT, Nat.reduceLeDiff, Nat.reduceEqDiff, Nat.reduceAdd, ↓reduceIte, undef, hn, h0, h1, h6, hys.lenA Try.underlying27, eq_false k3, eq_false e4, wrapI]
  refine (rhalf_any t4 y c p hys (by omega) (by omega)).mono ?_
  rintro _ t5 ⟨rfl, hs⟩; subst hs
  by_cases k5 : half c p = 0
  rotate_left
  · have e5 : ((half c p : Nat) : Int) ≠ 0 := by omega
    simp (config := { maxSteps := 1000000, implicitDefEqProofs := false }) (disch := omega) only [allW, allR, oneOf, evalAll, partsA, optA, Nat.reduceLT, Nat.reduceLeDiff, Nat.reduceEqDiff, Nat.reduceAdd, ↓reduceIte, undef, hn, h0, h1, h6, decide_eq_true e5, bin_neq]
    exact hfail _ (by simp only [get_put, n_put, ↓reduceIte, Nat.reduceEqDiff, hn]) (.inr (.inr (.inl k5))) (by simp only [get_put, n_put, ↓reduceIte, Nat.reduceEqDiff]) (by simp only [get_put, n_put, ↓reduceIte, Nat.reduceEqDiff])
  have e5 : ¬ ((half c p : Nat) : Int) ≠ 0 := by omega
  simp (config := { maxSteps := 1000000, implicitDefEqProofs := false }) (disch := omega) only [allW, allR, oneOf, evalAll, partsA, optA, Nat.reduceLT, Nat.reduceLeDiff, Nat.reduceEqDiff, Nat.reduceAdd, ↓reduceIte, undef, hn, h0, h1, h6, decide_eq_false e5, bin_neq, wrapI]
  rw [show ((p : Int) + 2) = ((p + 2 : Nat) : Int) by omega]
  refine (rhalf_any t5 y c (p + 2) hys (by omega) (by omega)).mono ?_
  rintro _ t6 ⟨rfl, hs⟩; subst hs
  by_cases k6 : half c (p + 2) = 262
  rotate_left
  · have e6 : ((half c (p + 2) : Nat) : Int) ≠ 262 := by omega
    simp (config := { maxSteps := 1000000, implicitDefEqProofs := false }) (disch := omega) only [allW, allR, oneOf, evalAll, partsA, optA, Nat.reduceLT, Nat.reduceLeDiff, Nat.reduceEqDiff, Nat.reduceAdd, ↓reduceIte, undef, hn, h0, h1, h6, decide_eq_true e6, bin_neq]
    exact hfail _ (by simp only [get_put, n_put, ↓reduceIte, Nat.reduceEqDiff, hn]) (.inr (.inr (.inr k6))) (by simp only [get_put, n_put, ↓reduceIte, Nat.reduceEqDiff]) (by simp only [get_put, n_put, ↓reduceIte, Nat.reduceEqDiff])
  have e6 : ¬ ((half c (p + 2) : Nat) : Int) ≠ 262 := by omega
  have hmx : mapX G c p = if ((c.drop (p + 6)).take 256).all (fun x => decide (x.toNat < G)) then .ok (((c.drop (p + 6)).take 256).map (·.toNat)) else .error 4 := by
    unfold mapX; rw [if_neg]; simp [k3, k4, k5, k6]
  simp (config := { maxSteps := 1000000, implicitDefEqProofs := false }) (disch := omega) only [allW, allR, oneOf, evalAll, partsA, optA, Nat.reduceLT, Nat.reduceLeDiff, Nat.reduceEqDiff, Nat.reduceAdd, ↓reduceIte, undef, hn, h0, h1, h6, decide_eq_false e6, bin_neq]
  refine Comes.loopAt (fun z f t => ∃ (j : Nat) (g : Value), z = 256 - j ∧ j ≤ 256 ∧ Thing t q [U, .int .i64 (G : Nat), w, g] ∧ Own t 1 g j (natsV (((c.drop (p + 6)).take j).map (·.toNat))) ∧ Fresh t6.next g ∧ ((c.drop (p + 6)).take j).all (fun x => decide (x.toNat < G)) = true ∧ CTo [q] t6 t ∧ f.n = 100 ∧ f.get 0 = fptr q ∧ f.get 1 = y ∧ f.get 8 = .int .i64 (p : Nat) ∧ f.get 9 = .int .i64 (j : Nat))
    ⟨0, .slice none 0 0, rfl, by omega, hq, .nil, Fresh.nil _, rfl, CTo.refl _ _, by simp only [get_put, n_put, ↓reduceIte, Nat.reduceEqDiff, hn], by simp only [get_put, n_put, ↓reduceIte, Nat.reduceEqDiff, h0], by simp only [get_put, n_put, ↓reduceIte, Nat.reduceEqDiff, h1], by simp only [get_put, n_put, ↓reduceIte, Nat.reduceEqDiff], by simp only [get_put, n_put, ↓reduceIte, Nat.reduceEqDiff]; rfl⟩ ?_
  clear hn h0 h1 h6 f hfail hbad
  rintro z f t ⟨j, g, rfl, hj, hqt, hg, hgF, hall, hto, hn, h0, h1, h8, h9⟩
  have hst : Stay q t6 t := hto.keeps (fun i hi => by rw [List.mem_singleton.mp hi]; exact Nat.le_refl _) (by omega)
  have hyt := (hy.stay hst).sees
  have hnt := hto.next
  by_cases hlt2 : j < 256
  rotate_left
  · obtain rfl : j = 256 := by omega
    have d : ¬ ((256 : Nat) : Int) < 256 := by omega
    rw [if_pos hall] at hmx
    simp (config := { maxSteps := 1000000, implicitDefEqProofs := false }) (disch := omega) only [allW, allR, wfn_ret, wfn_normal, oneOf, evalAll, partsA, optA, Nat.reduceLT, Nat.reduceLeDiff, Nat.reduceEqDiff, Nat.reduceAdd, ↓reduceIte, hn, h0, h1, h8, h9, eq_false d, Try.results29]
    rw [hif, hmx]
    refine ⟨rfl, hto, g, hqt, ?_, hgF⟩
    rw [List.length_map, List.length_take, List.length_drop, Nat.min_eq_left (by omega)]
    exact hg
  have d : (j : Int) < 256 := by omega
  have hix := hyt.indexAddr (P := Try.prog) (k := .i64) (x := (p : Int) + 6 + (j : Int)) Try.underlying27 szU8 (by omega) (by omega)
  rw [show ((p : Int) + 6 + (j : Int)).toNat = p + 6 + j by omega] at hix
  have hld := hyt.load1 (P := Try.prog) agU8 (k := p + 6 + j) (by omega)
  rw [ofBytes_getD (by omega)] at hld
  obtain ⟨x, hx⟩ : ∃ x, x = c.getD (p + 6 + j) 0 := ⟨_, rfl⟩
  rw [← hx] at hld
  have hsn := drop_take_snoc (c := c) (n := p + 6) (k := j) (by omega)
  rw [← hx] at hsn
  have lq1 := hqt.load (P := Try.prog) agInt (off := 1) (c := 5) rfl (by simp)
  have lq3 := hqt.load (P := Try.prog) agInts (off := 3) (c := 5) rfl (by simp)
  by_cases k7 : G ≤ x.toNat
  · have hr : mapX G c p = .error 4 := by
      rw [hmx, if_neg]
      intro h
      rw [List.all_eq_true] at h
      have h2 : x ∈ (c.drop (p + 6)).take (j + 1) := by rw [hsn]; simp
      have := h x (List.mem_of_mem_take (i := j + 1) (by rw [List.take_take, Nat.min_eq_left (by omega)]; exact h2))
      simp at this
      omega
    simp (config := { maxSteps := 1000000, implicitDefEqProofs := false }) (disch := omega) only [allW, allR, wfn_ret, wfn_normal, oneOf, evalAll, partsA, optA, Nat.reduceLT, Nat.reduceLeDiff, Nat.reduceEqDiff, Nat.reduceAdd, ↓reduceIte, hn, h0, h1, h8, h9, eq_true d, wrapI, hix, hld, conv_u8, rf1, Nat.zero_add, lq1, eq_true k7, Try.results29]
    rw [hif, hr]
    exact ⟨rfl, hto⟩
  simp (config := { maxSteps := 1000000, implicitDefEqProofs := false }) (disch := omega) only [allW, allR, oneOf, evalAll, partsA, optA, Nat.reduceLT, Nat.reduceLeDiff, Nat.reduceEqDiff, Nat.reduceAdd, ↓reduceIte, hn, h0, h1, h8, h9, eq_true d, wrapI, hix, hld, conv_u8, rf1, rf3, Nat.zero_add, lq1, lq3, eq_false k7, build1 Try.underlying30 szInt zInt]
  refine wstep_append_lit Try.underlying30 szInt byInt zInt rfl hg (by simp only [get_put, n_put, ↓reduceIte, Nat.reduceEqDiff]) (by decide) (by simp only [get_put, n_put, ↓reduceIte, Nat.reduceEqDiff, hn]; decide) (by simp only [get_put, n_put, ↓reduceIte, Nat.reduceEqDiff, hn]; decide) (by rfl) (by decide) rfl (by omega) (by omega) hgF (by omega) ?_
  intro bs g' t7 hg2 hF2 hst2 hut2 hor
  have hgq : idOf g ≠ some q := fun e => by have := hgF _ e; omega
  have hg2q : idOf g' ≠ some q := fun e => by have := hF2 _ e; omega
  simp (config := { maxSteps := 1000000, implicitDefEqProofs := false }) (disch := omega) only [allW, allR, oneOf, evalAll, partsA, optA, Nat.reduceLT, Nat.reduceLeDiff, Nat.reduceEqDiff, Nat.reduceAdd, ↓reduceIte, hn, h0, h1, h8, h9, rf3, Nat.zero_add]
  refine wstep_store szInts (hqt.turns hut2 hgq) (off := 3) (c := 5) rfl (by simp) hg2.sees.okCell ?_
  intro t8 hq8 hnx8 hot8
  simp (config := { maxSteps := 1000000, implicitDefEqProofs := false }) (disch := omega) only [allW, allR, oneOf, evalAll, partsA, optA, Nat.reduceLT, Nat.reduceLeDiff, Nat.reduceEqDiff, Nat.reduceAdd, ↓reduceIte, hn, h0, h1, h8, h9, wrapI]
  have hto8 : CTo [q] t6 t8 := by
    have hn2 := hut2.next
    refine ⟨by omega, fun i hi hni => ?_⟩
    rw [hot8 i (fun e => hni (e ▸ List.mem_singleton.mpr rfl)), hut2.get i (by omega) (fun e => by have := hgF _ e; omega)]
    exact hto.get i hi hni
  refine wround_next (256 - (j + 1)) (by omega) ⟨j + 1, g', rfl, by omega, hq8, ?_, hF2, ?_, hto8, by simp only [get_put, n_put, ↓reduceIte, Nat.reduceEqDiff, hn], by simp only [get_put, n_put, ↓reduceIte, Nat.reduceEqDiff, h0], by simp only [get_put, n_put, ↓reduceIte, Nat.reduceEqDiff, h1], by simp only [get_put, n_put, ↓reduceIte, Nat.reduceEqDiff, h8], by simp only [get_put, n_put, ↓reduceIte, Nat.reduceEqDiff]; rfl⟩
  · rw [hsn, List.map_append, List.map_cons, List.map_nil, natsV_snoc]
    exact hg2.ofPut hnx8 hot8 hg2q
  · rw [hsn, List.all_append, hall]
    simp; omega
end Go.Proofs.Ytpdkppimlcbhlaa
