/-
  Fonts in tables: what the reference's font tells; the law's Look.
-/
import Derived.Test.YtpdkppimlcbhlaaSfJ
set_option linter.unusedSimpArgs false
set_option linter.unusedVariables false
set_option maxRecDepth 100000
namespace Go.Proofs.Ytpdkppimlcbhlaa
open Go.Cl Go.Cl.Sf
set_option maxHeartbeats 8000000 in
theorem rglyph_any (base : Nat) (s : ASt) (q : Nat) (F : Fnt) (c : Int) (h : FontIs base s q F) (hF : FntOk F) :
    Runs Try.prog libN 30 [fptr q, .int .i64 c] s fun v s' => v = .int .i64 (F.glyph c) ∧ s' = s := by
  refine Runs.enter 18 Try.func30 rfl rfl rfl rfl ?_
  intro f hn hf
  have h0 : f.get 0 = fptr q := hf 0
  have h1 : f.get 1 = .int .i64 c := hf 1
  clear hf
  obtain ⟨_, w, g, hq, hw, hg, _⟩ := h
  have l3 := hq.load (P := Try.prog) agInts (off := 3) (c := 5) rfl (by simp)
  have hm := hF.map
  by_cases c1 : c < 0
  · have e : F.glyph c = -1 := by unfold Fnt.glyph; rw [if_pos (by omega)]
    simp (config := { maxSteps := 1000000, implicitDefEqProofs := false }) (disch := omega) only [allW, allR, wfn_ret, wfn_normal, oneOf, evalAll, partsA, optA, Nat.reduceLT, Nat.reduceLeDiff, Nat.reduceEqDiff, Nat.reduceAdd, ↓reduceIte, undef, hn, h0, h1, eq_true c1, Try.results30]
    rw [e]
  by_cases c2 : 255 < c
  · have e : F.glyph c = -1 := by unfold Fnt.glyph; rw [if_pos (by omega)]
    simp (config := { maxSteps := 1000000, implicitDefEqProofs := false }) (disch := omega) only [allW, allR, wfn_ret, wfn_normal, oneOf, evalAll, partsA, optA, Nat.reduceLT, Nat.reduceLeDiff, Nat.reduceEqDiff, Nat.reduceAdd, ↓reduceIte, undef, hn, h0, h1, eq_false c1, eq_true c2, Try.results30]
    rw [e]
  have hix := hg.sees.indexAddr (P := Try.prog) (k := .i64) (x := c) Try.underlying30 szInt (by omega) (by omega)
  have hl := hg.sees.load1 (P := Try.prog) agInt (k := c.toNat) (by omega)
  rw [natsV_getD (by omega)] at hl
  have e : F.glyph c = ((F.map.getD c.toNat 0 : Nat) : Int) := (hF.glyph (by omega) (by omega)).1
  simp (config := { maxSteps := 1000000, implicitDefEqProofs := false }) (disch := omega) only [allW, allR, wfn_ret, wfn_normal, oneOf, evalAll, partsA, optA, Nat.reduceLT, Nat.reduceLeDiff, Nat.reduceEqDiff, Nat.reduceAdd, ↓reduceIte, undef, hn, h0, h1, eq_false c1, eq_false c2, rf3, Nat.zero_add, l3, hix, hl, Try.results30]
  rw [e]
set_option maxHeartbeats 8000000 in
theorem rwidth_any (base : Nat) (s : ASt) (q : Nat) (F : Fnt) (g : Int) (h : FontIs base s q F) (hF : FntOk F) (hg : -9223372036854775808 ≤ g ∧ g ≤ 9223372036854775807) :
    Runs Try.prog libN 32 [fptr q, .int .i64 g] s fun v s' => v = .int .i64 (F.width g) ∧ s' = s := by
  refine Runs.enter 29 Try.func32 rfl rfl rfl rfl ?_
  intro f hn hf
  have h0 : f.get 0 = fptr q := hf 0
  have h1 : f.get 1 = .int .i64 g := hf 1
  clear hf
  obtain ⟨_, w, gv, hq, hw, _, _⟩ := h
  have l1 := hq.load (P := Try.prog) agInt (off := 1) (c := 5) rfl (by simp)
  have l2 := hq.load (P := Try.prog) agInts (off := 2) (c := 5) rfl (by simp)
  have hwd := hF.wid
  have hsm := hF.small
  by_cases c1 : g < 0
  · have e : F.width g = -1 := by unfold Fnt.width; rw [if_pos (by omega)]
    simp (config := { maxSteps := 1000000, implicitDefEqProofs := false }) (disch := omega) only [allW, allR, wfn_ret, wfn_normal, oneOf, evalAll, partsA, optA, Nat.reduceLT, Nat.reduceLeDiff, Nat.reduceEqDiff, Nat.reduceAdd, ↓reduceIte, undef, hn, h0, h1, eq_true c1, Try.results32]
    rw [e]
  by_cases c2 : (F.glyphs : Int) ≤ g
  · have e : F.width g = -1 := by unfold Fnt.width; rw [if_pos (by omega)]
    simp (config := { maxSteps := 1000000, implicitDefEqProofs := false }) (disch := omega) only [allW, allR, wfn_ret, wfn_normal, oneOf, evalAll, partsA, optA, Nat.reduceLT, Nat.reduceLeDiff, Nat.reduceEqDiff, Nat.reduceAdd, ↓reduceIte, undef, hn, h0, h1, eq_false c1, rf1, Nat.zero_add, l1, eq_true c2, Try.results32]
    rw [e]
  have e : F.width g = ((F.widths.getD (min g.toNat (F.widths.length - 1)) 0 : Nat) : Int) := by unfold Fnt.width; rw [if_neg (by omega)]
  have hl := hw.sees.load1 (P := Try.prog) agInt (k := min g.toNat (F.widths.length - 1)) (by omega)
  rw [natsV_getD (by omega)] at hl
  by_cases c4 : (F.widths.length : Int) - 1 < g
  · have hix := hw.sees.indexAddr (P := Try.prog) (k := .i64) (x := (F.widths.length : Int) - 1) Try.underlying30 szInt (by omega) (by omega)
    rw [show ((F.widths.length : Int) - 1).toNat = min g.toNat (F.widths.length - 1) by omega] at hix
    simp (config := { maxSteps := 1000000, implicitDefEqProofs := false }) (disch := omega) only [allW, allR, wfn_ret, wfn_normal, oneOf, evalAll, partsA, optA, Nat.reduceLT, Nat.reduceLeDiff, Nat.reduceEqDiff, Nat.reduceAdd, ↓reduceIte, undef, hn, h0, h1, eq_false c1, rf1, rf2, Nat.zero_add, l1, l2, eq_false c2, hw.sees.lenA Try.underlying30, wrapI, eq_true c4, hix, hl, hw.self, valEq_elemPtr, valEq_pointer, valEq_int, Try.results32]
    rw [e]
  · have hix := hw.sees.indexAddr (P := Try.prog) (k := .i64) (x := g) Try.underlying30 szInt (by omega) (by omega)
    rw [show g.toNat = min g.toNat (F.widths.length - 1) by omega] at hix
    simp (config := { maxSteps := 1000000, implicitDefEqProofs := false }) (disch := omega) only [allW, allR, wfn_ret, wfn_normal, oneOf, evalAll, partsA, optA, Nat.reduceLT, Nat.reduceLeDiff, Nat.reduceEqDiff, Nat.reduceAdd, ↓reduceIte, undef, hn, h0, h1, eq_false c1, rf1, rf2, Nat.zero_add, l1, l2, eq_false c2, hw.sees.lenA Try.underlying30, wrapI, eq_false c4, hix, hl, hw.self, valEq_elemPtr, valEq_pointer, valEq_int, Try.results32]
    rw [e]
set_option maxHeartbeats 8000000 in
theorem radvance_any (base : Nat) (s : ASt) (q : Nat) (F : Fnt) (c : Int) (h : FontIs base s q F) (hF : FntOk F) :
    Runs Try.prog libN 31 [fptr q, .int .i64 c] s fun v s' => v = .int .i64 (F.advance c) ∧ s' = s := by
  refine Runs.enter 26 Try.func31 rfl rfl rfl rfl ?_
  intro f hn hf
  have h0 : f.get 0 = fptr q := hf 0
  have h1 : f.get 1 = .int .i64 c := hf 1
  clear hf
  have h' := h
  obtain ⟨_, w, g, hq, hw, hg, _⟩ := h'
  have hm := hF.map
  have hu0 := hF.u0
  have hu1 := hF.u1
  by_cases c1 : c < 0
  · have e : F.advance c = -1 := by
      have : F.glyph c = -1 := by unfold Fnt.glyph; rw [if_pos (by omega)]
      unfold Fnt.advance; rw [if_pos (by omega)]
    simp (config := { maxSteps := 1000000, implicitDefEqProofs := false }) (disch := omega) only [allW, allR, wfn_ret, wfn_normal, oneOf, evalAll, partsA, optA, Nat.reduceLT, Nat.reduceLeDiff, Nat.reduceEqDiff, Nat.reduceAdd, ↓reduceIte, undef, hn, h0, h1, eq_true c1, Try.results31]
    rw [e]
  by_cases c2 : 255 < c
  · have e : F.advance c = -1 := by
      have : F.glyph c = -1 := by unfold Fnt.glyph; rw [if_pos (by omega)]
      unfold Fnt.advance; rw [if_pos (by omega)]
    simp (config := { maxSteps := 1000000, implicitDefEqProofs := false }) (disch := omega) only [allW, allR, wfn_ret, wfn_normal, oneOf, evalAll, partsA, optA, Nat.reduceLT, Nat.reduceLeDiff, Nat.reduceEqDiff, Nat.reduceAdd, ↓reduceIte, undef, hn, h0, h1, eq_false c1, eq_true c2, Try.results31]
    rw [e]
  have hix := hg.sees.indexAddr (P := Try.prog) (k := .i64) (x := c) Try.underlying30 szInt (by omega) (by omega)
  have hl := hg.sees.load1 (P := Try.prog) agInt (k := c.toNat) (by omega)
  rw [natsV_getD (by omega)] at hl
  obtain ⟨eg, egl⟩ := hF.glyph (c := c) (by omega) (by omega)
  rw [← eg] at hl
  have hg1 := hF.g1
  have e : F.advance c = (1000 * F.width (F.glyph c)).tdiv F.units := by unfold Fnt.advance; rw [if_neg (by omega)]
  have l3 := hq.load (P := Try.prog) agInts (off := 3) (c := 5) rfl (by simp)
  have l0 := hq.load (P := Try.prog) agInt (off := 0) (c := 5) rfl (by simp)
  simp (config := { maxSteps := 1000000, implicitDefEqProofs := false }) (disch := omega) only [allW, allR, oneOf, evalAll, partsA, optA, Nat.reduceLT, Nat.reduceLeDiff, Nat.reduceEqDiff, Nat.reduceAdd, ↓reduceIte, hn, h0, h1, eq_false c1, eq_false c2]
  refine LB.Drawn.looseK (fun j => decide (j < s.next)) (fun j h => of_decide_eq_true h) 1 0 (by kernel_rfl) (by kernel_rfl) ?_
  rw [spare_zero]
  have hlq : ∀ o, LA.lowV (fun j => decide (j < s.next)) (some (.pointer (some ⟨q, o, some 5⟩))) = true := fun o => LA.lowV_ptr _ (by simp [hq.lt])
  have hle : LA.lowV (fun j => decide (j < s.next)) (some (elemPtr 1 g c.toNat)) = true := LA.lowV_elemOld hg.sees (fun i hi => decide_eq_true hi) (by omega)
  simp (config := { maxSteps := 1000000, implicitDefEqProofs := false }) (disch := omega) only [allW, allR, allL, allB, Nat.sub_self, Nat.add_one_sub_one, Nat.reduceSub, oneOf, evalAll, partsA, optA, Nat.reduceLT, Nat.reduceLeDiff, Nat.reduceEqDiff, Nat.reduceAdd, ↓reduceIte, undef, hn, h0, h1, rf3, Nat.zero_add, l3, hix, hl, hlq, hle, hg.self, valEq_elemPtr, valEq_pointer, valEq_int]
  refine (rwidth_any base s q F (F.glyph c) h hF (by omega)).mono ?_
  rintro _ s2 ⟨rfl, hs⟩; subst hs
  refine ⟨fun _ => LA.StayA.refl _ _, ?_⟩
  have hwb := hF.width (F.glyph c)
  have hne : (F.units : Int) ≠ 0 := by omega
  have htd := tdiv_small (a := 1000 * F.width (F.glyph c)) (b := (F.units : Int)) (by omega) (by omega)
  simp (config := { maxSteps := 1000000, implicitDefEqProofs := false }) (disch := omega) only [allW, allR, allL, allB, Nat.sub_self, Nat.add_one_sub_one, Nat.reduceSub, oneOf, evalAll, partsA, optA, Nat.reduceLT, Nat.reduceLeDiff, Nat.reduceEqDiff, Nat.reduceAdd, ↓reduceIte, undef, hn, h0, h1, rf0, Nat.add_zero, l0, hlq, valEq_pointer, valEq_int, wrapI, bin_quo Try.prog 3 .i64 _ _ hne]
  simp (config := { maxSteps := 1000000, implicitDefEqProofs := false }) (disch := omega) only [allW, allR, wfn_ret, wfn_normal, oneOf, evalAll, partsA, optA, Nat.reduceLT, Nat.reduceLeDiff, Nat.reduceEqDiff, Nat.reduceAdd, ↓reduceIte, undef, hn, Try.results31]
  rw [e]
set_option maxHeartbeats 16000000 in
theorem look_any (b1 b2 : Nat) (s : ASt) (p q : Nat) (F : Fnt) (hp : FontIs b1 s p F) (hq : FontIs b2 s q F) (hF : FntOk F) :
    Runs Try.prog libN 13 [fptr p, fptr q] s fun v s' => v = .bool true ∧ Stay s.next s s' := by
  refine Runs.enter 104 Try.func13 rfl rfl rfl rfl ?_
  intro f hn hf
  have h0 : f.get 0 = fptr p := hf 0
  have h1 : f.get 1 = fptr q := hf 1
  clear hf
  have hp' := hp
  have hq' := hq
  obtain ⟨_, w, g, tp, hw, hg, _⟩ := hp'
  obtain ⟨_, w', g', tq, hw', hg', _⟩ := hq'
  have a0 := tp.load (P := Try.prog) agInt (off := 0) (c := 5) rfl (by simp)
  have a1 := tp.load (P := Try.prog) agInt (off := 1) (c := 5) rfl (by simp)
  have a2 := tp.load (P := Try.prog) agInts (off := 2) (c := 5) rfl (by simp)
  have q0 := tq.load (P := Try.prog) agInt (off := 0) (c := 5) rfl (by simp)
  have q1 := tq.load (P := Try.prog) agInt (off := 1) (c := 5) rfl (by simp)
  have q2 := tq.load (P := Try.prog) agInts (off := 2) (c := 5) rfl (by simp)
  have hsm := hF.small
  have hz : ∀ x : Int, ¬ x ≠ x := fun x h => h rfl
  simp (config := { maxSteps := 1000000, implicitDefEqProofs := false }) (disch := omega) only [allW, allR, oneOf, evalAll, partsA, optA, Nat.reduceLT, Nat.reduceLeDiff, Nat.reduceEqDiff, Nat.reduceAdd, ↓reduceIte, undef, hn, h0, h1, eql_pnil Try.underlying23, ff0, mf0, mf1, mf2, rf0, rf1, rf2, Nat.add_zero, Nat.zero_add, a0, a1, a2, q0, q1, q2, hw.sees.lenA Try.underlying30, hw'.sees.lenA Try.underlying30, hw.self, hw'.self, bin_neq, decide_eq_false (hz _), valEq_pointer, valEq_int, valEq_bool]
  refine Comes.loopOut (fun z f t => ∃ k : Nat, z = F.widths.length - k ∧ k ≤ F.widths.length ∧ t = s ∧ f.n = 104 ∧ f.get 0 = fptr p ∧ f.get 1 = fptr q ∧ f.get 5 = .int .i64 (k : Nat))
    (fun z f t => z = .exit 0 ∧ t = s ∧ f.n = 104 ∧ f.get 0 = fptr p ∧ f.get 1 = fptr q)
    ⟨0, rfl, by omega, rfl, by simp only [get_put, n_put, ↓reduceIte, Nat.reduceEqDiff, hn], by simp only [get_put, n_put, ↓reduceIte, Nat.reduceEqDiff, h0], by simp only [get_put, n_put, ↓reduceIte, Nat.reduceEqDiff, h1], by simp only [get_put, n_put, ↓reduceIte, Nat.reduceEqDiff]; rfl⟩ ?_ ?_
  · clear hn h0 h1 f
    rintro Q hQ z f t ⟨k, rfl, hk, rfl, hn, h0, h1, h5⟩
    by_cases hlt : k < F.widths.length
    rotate_left
    · obtain rfl : k = F.widths.length := by omega
      have d : ¬ (F.widths.length : Int) < (F.widths.length : Int) := by omega
      simp (config := { maxSteps := 1000000, implicitDefEqProofs := false }) (disch := omega) only [allW, allR, oneOf, evalAll, partsA, optA, Nat.reduceLT, Nat.reduceLeDiff, Nat.reduceEqDiff, Nat.reduceAdd, ↓reduceIte, undef, hn, h0, h1, h5, rf2, Nat.zero_add, q2, hw'.sees.lenA Try.underlying30, eq_false d]
      exact hQ _ _ _ ⟨rfl, rfl, by simp only [get_put, n_put, ↓reduceIte, Nat.reduceEqDiff, hn], by simp only [get_put, n_put, ↓reduceIte, Nat.reduceEqDiff, h0], by simp only [get_put, n_put, ↓reduceIte, Nat.reduceEqDiff, h1]⟩
    have d : (k : Int) < (F.widths.length : Int) := by omega
    have hix := hw.sees.indexAddr (P := Try.prog) (k := .i64) (x := (k : Int)) Try.underlying30 szInt (by omega) (by omega)
    have hix' := hw'.sees.indexAddr (P := Try.prog) (k := .i64) (x := (k : Int)) Try.underlying30 szInt (by omega) (by omega)
    rw [Int.toNat_natCast] at hix hix'
    have hl := hw.sees.load1 (P := Try.prog) agInt hlt
    have hl' := hw'.sees.load1 (P := Try.prog) agInt hlt
    rw [natsV_getD hlt] at hl hl'
    simp (config := { maxSteps := 1000000, implicitDefEqProofs := false }) (disch := omega) only [allW, allR, oneOf, evalAll, partsA, optA, Nat.reduceLT, Nat.reduceLeDiff, Nat.reduceEqDiff, Nat.reduceAdd, ↓reduceIte, undef, hn, h0, h1, h5, ff0, mf2, rf2, Nat.add_zero, Nat.zero_add, a2, q2, hw'.sees.lenA Try.underlying30, eq_true d, hix, hix', hl, hl', hw.self, hw'.self, bin_neq, decide_eq_false (hz _), valEq_elemPtr, valEq_pointer, valEq_int, valEq_bool, wrapI]
    exact wround_next (F.widths.length - (k + 1)) (by omega) ⟨k + 1, rfl, by omega, rfl, by simp only [get_put, n_put, ↓reduceIte, Nat.reduceEqDiff, hn], by simp only [get_put, n_put, ↓reduceIte, Nat.reduceEqDiff, h0], by simp only [get_put, n_put, ↓reduceIte, Nat.reduceEqDiff, h1], by simp only [get_put, n_put, ↓reduceIte, Nat.reduceEqDiff]; rfl⟩
  clear hn h0 h1 f
  rintro z f t ⟨rfl, rfl, hn, h0, h1⟩
  simp (config := { maxSteps := 1000000, implicitDefEqProofs := false }) (disch := omega) only [allW, allR, oneOf, evalAll, partsA, optA, Nat.reduceLT, Nat.reduceLeDiff, Nat.reduceEqDiff, Nat.reduceAdd, ↓reduceIte, hn, h0, h1]
  refine Comes.loopAt (fun z f u => ∃ k : Nat, z = 258 - k ∧ k ≤ 258 ∧ Stay t.next t u ∧ f.n = 104 ∧ f.get 0 = fptr p ∧ f.get 1 = fptr q ∧ f.get 6 = .int .i64 ((k : Int) - 1))
    ⟨0, rfl, by omega, Stay.refl _ _, by simp only [get_put, n_put, ↓reduceIte, Nat.reduceEqDiff, hn], by simp only [get_put, n_put, ↓reduceIte, Nat.reduceEqDiff, h0], by simp only [get_put, n_put, ↓reduceIte, Nat.reduceEqDiff, h1], by simp only [get_put, n_put, ↓reduceIte, Nat.reduceEqDiff]; rfl⟩ ?_
  clear hn h0 h1 f
  rintro z f u ⟨k, rfl, hk, hst, hn, h0, h1, h6⟩
  by_cases hlt : k < 258
  rotate_left
  · obtain rfl : k = 258 := by omega
    have d : ¬ ((258 : Nat) : Int) - 1 ≤ 256 := by omega
    simp (config := { maxSteps := 1000000, implicitDefEqProofs := false }) (disch := omega) only [allW, allR, wfn_ret, wfn_normal, oneOf, evalAll, partsA, optA, Nat.reduceLT, Nat.reduceLeDiff, Nat.reduceEqDiff, Nat.reduceAdd, ↓reduceIte, hn, h0, h1, h6, eq_false d, Try.results13]
    exact hst
  have d : (k : Int) - 1 ≤ 256 := by omega
  obtain ⟨c, hc⟩ : ∃ c : Int, c = (k : Int) - 1 := ⟨_, rfl⟩
  have hcl : -1 ≤ c ∧ c ≤ 256 := by omega
  rw [← hc] at h6 d
  have hpu := hp.keeps hst
  have hqu := hq.keeps hst
  simp (config := { maxSteps := 1000000, implicitDefEqProofs := false }) (disch := omega) only [allW, allR, oneOf, evalAll, partsA, optA, Nat.reduceLT, Nat.reduceLeDiff, Nat.reduceEqDiff, Nat.reduceAdd, ↓reduceIte, undef, hn, h0, h1, h6, eq_true d]
  refine (glyph_any b1 u p F c hpu hF).mono ?_
  rintro _ u1 ⟨rfl, hs⟩; subst hs
  simp (config := { maxSteps := 1000000, implicitDefEqProofs := false }) (disch := omega) only [allW, allR, oneOf, evalAll, partsA, optA, Nat.reduceLT, Nat.reduceLeDiff, Nat.reduceEqDiff, Nat.reduceAdd, ↓reduceIte, undef, hn, h0, h1, h6]
  refine (rglyph_any b2 u1 q F c hqu hF).mono ?_
  rintro _ u2 ⟨rfl, hs⟩; subst hs
  simp (config := { maxSteps := 1000000, implicitDefEqProofs := false }) (disch := omega) only [allW, allR, oneOf, evalAll, partsA, optA, Nat.reduceLT, Nat.reduceLeDiff, Nat.reduceEqDiff, Nat.reduceAdd, ↓reduceIte, undef, hn, h0, h1, h6, bin_neq, decide_eq_false (hz _)]
  refine (advance_any b1 u2 p F c hpu hF).mono ?_
  rintro _ u3 ⟨rfl, hst3⟩
  simp (config := { maxSteps := 1000000, implicitDefEqProofs := false }) (disch := omega) only [allW, allR, oneOf, evalAll, partsA, optA, Nat.reduceLT, Nat.reduceLeDiff, Nat.reduceEqDiff, Nat.reduceAdd, ↓reduceIte, undef, hn, h0, h1, h6]
  refine (radvance_any b2 u3 q F c (hqu.keeps hst3) hF).mono ?_
  rintro _ u4 ⟨rfl, hs⟩; subst hs
  have tp4 := (tp.keeps hst).keeps hst3
  have hw4 := (hw.keeps hst).keeps hst3
  have lm : loadA Try.prog u4 33 (.pointer (some ⟨p, 0, some 5⟩)) = some (.agg #[.int .i64 (F.units : Nat), .int .i64 (F.glyphs : Nat), w]) := Thing.loadFirst agMet szMet tp4 (c := 5) rfl (by simp)
  simp (config := { maxSteps := 1000000, implicitDefEqProofs := false }) (disch := omega) only [allW, allR, oneOf, evalAll, partsA, optA, Nat.reduceLT, Nat.reduceLeDiff, Nat.reduceEqDiff, Nat.reduceAdd, ↓reduceIte, undef, hn, h0, h1, h6, bin_neq, decide_eq_false (hz _), ff0, Nat.add_zero, lm]
  refine (width_any u4 _ F w c hw4 hF (by omega)).mono ?_
  rintro _ u5 ⟨rfl, hst5⟩
  simp (config := { maxSteps := 1000000, implicitDefEqProofs := false }) (disch := omega) only [allW, allR, oneOf, evalAll, partsA, optA, Nat.reduceLT, Nat.reduceLeDiff, Nat.reduceEqDiff, Nat.reduceAdd, ↓reduceIte, undef, hn, h0, h1, h6]
  refine (rwidth_any b2 u5 q F c ((hqu.keeps hst3).keeps hst5) hF (by omega)).mono ?_
  rintro _ u6 ⟨rfl, hs⟩; subst hs
  simp (config := { maxSteps := 1000000, implicitDefEqProofs := false }) (disch := omega) only [allW, allR, oneOf, evalAll, partsA, optA, Nat.reduceLT, Nat.reduceLeDiff, Nat.reduceEqDiff, Nat.reduceAdd, ↓reduceIte, undef, hn, h0, h1, h6, bin_neq, decide_eq_false (hz _), wrapI]
  refine wround_next (258 - (k + 1)) (by omega) ⟨k + 1, rfl, by omega, (hst.trans (hst3.weaken hst.next)).trans (hst5.weaken (by have := hst.next; have := hst3.next; omega)), by simp only [get_put, n_put, ↓reduceIte, Nat.reduceEqDiff, hn], by simp only [get_put, n_put, ↓reduceIte, Nat.reduceEqDiff, h0], by simp only [get_put, n_put, ↓reduceIte, Nat.reduceEqDiff, h1], ?_⟩
  simp only [get_put, n_put, ↓reduceIte, Nat.reduceEqDiff]
  rw [hc]; congr 1; omega
end Go.Proofs.Ytpdkppimlcbhlaa
