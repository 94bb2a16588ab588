/-
  Fonts in tables: what a font tells, of both; the law's Look.
-/
import Derived.Test.YtpdkppimlcbhlaaSfI
set_option linter.unusedSimpArgs false
set_option linter.unusedVariables false
set_option maxRecDepth 100000
namespace Go.Cl
theorem Thing.loadFirst {P : Program} {e : TypeId} {n : Nat} (hag : isAggB P e = some true) (hsz : sizeB P e = some n) {s : ASt} {i : Nat} {cs : List Value} (h : Thing s i cs) {c : Nat} (hc : c = cs.length + 1) (hn : n ≤ cs.length) : loadA P s e (.pointer (some ⟨i, 0, some c⟩)) = some (.agg (cs.take n).toArray) := by
  obtain ⟨low, z, h1, h2⟩ := h.blk
  subst hc
  unfold loadA
  simp only [hag, hsz]
  rw [cellsAt_eq h1 h2 (Nat.le_refl _) (by omega)]
  simp
namespace Sf
/-- What holds of each font that is read. -/
structure FntOk (F : Fnt) : Prop where
  map : F.map.length = 256
  wid : 1 ≤ F.widths.length
  small : F.widths.length ≤ 65536
  u0 : 16 ≤ F.units
  u1 : F.units ≤ 16384
  g1 : F.glyphs < 65536
  w1 : ∀ n ∈ F.widths, n < 65536
  m1 : ∀ n ∈ F.map, n < F.glyphs ∧ n < 256
theorem mapX_ok {g : Nat} {c : List UInt8} {p : Nat} {m : List Nat} (h : mapX g c p = .ok m) : m.length = 256 ∧ ∀ n ∈ m, n < g ∧ n < 256 := by
  unfold mapX at h
  split at h
  · cases h
  rename_i hc
  split at h
  · rename_i ha
    injection h with h
    subst h
    refine ⟨?_, fun n hn => ?_⟩
    · rw [List.length_map, List.length_take, List.length_drop]; omega
    · obtain ⟨x, hx, rfl⟩ := List.mem_map.mp hn
      rw [List.all_eq_true] at ha
      exact ⟨by simpa using ha x hx, x.toNat_lt⟩
  · cases h
theorem cmapF_ok {n0 g : Nat} {c : List UInt8} {m : List Nat} : ∀ k i, cmapF n0 g c k i = .ok m → m.length = 256 ∧ ∀ n ∈ m, n < g ∧ n < 256 := by
  intro k
  induction k with
  | zero => intro i h; rw [cmapF] at h; cases h
  | succ k ih =>
    intro i h
    rw [cmapF] at h
    split at h
    · exact mapX_ok h
    · exact ih _ h
theorem fontX_ok {b : List UInt8} {n0 : Nat} {F : Fnt} (h : fontX n0 b = .ok F) : FntOk F := by
  unfold fontX at h
  split at h
  · cases h
  split at h
  · split at h
    · cases h
    · rename_i hb
      unfold badM at hb
      split at h
      · cases h
      · rename_i m hm
        injection h with h
        subst h
        unfold cmapX at hm
        split at hm
        · cases hm
        obtain ⟨h1, h2⟩ := cmapF_ok _ _ hm
        refine ⟨h1, ?_, ?_, ?_, ?_, half_lt _ _, ?_, h2⟩
        · simp only [List.length_map, List.length_range]; omega
        · simp only [List.length_map, List.length_range]; exact Nat.le_of_lt (half_lt _ 34)
        · show 16 ≤ half _ 18; omega
        · show half _ 18 ≤ 16384; omega
        · intro n hn
          obtain ⟨i, _, rfl⟩ := List.mem_map.mp hn
          exact half_lt _ _
  · cases h
theorem getD_mem {l : List Nat} {i : Nat} (h : i < l.length) : l.getD i 0 ∈ l := by
  simp only [List.getD, List.getElem?_eq_getElem h, Option.getD_some]; exact List.getElem_mem _
theorem FntOk.width {F : Fnt} (h : FntOk F) (g : Int) : -1 ≤ F.width g ∧ F.width g < 65536 := by
  unfold Fnt.width
  split
  · omega
  · have := h.w1 _ (getD_mem (l := F.widths) (i := min g.toNat (F.widths.length - 1)) (by have := h.wid; omega))
    omega
theorem FntOk.glyph {F : Fnt} (h : FntOk F) {c : Int} (h0 : 0 ≤ c) (h1 : c < 256) : F.glyph c = ((F.map.getD c.toNat 0 : Nat) : Int) ∧ F.map.getD c.toNat 0 < F.glyphs := by
  have hm := h.map
  refine ⟨?_, (h.m1 _ (getD_mem (by omega))).1⟩
  unfold Fnt.glyph
  rw [if_neg (by omega)]
theorem tdiv_small {a b : Int} (h1 : -9223372036854775808 < a) (h2 : a < 9223372036854775807) : -9223372036854775808 ≤ a.tdiv b ∧ a.tdiv b ≤ 9223372036854775807 := by
  have h := Int.natAbs_tdiv a b
  have h3 : a.natAbs / b.natAbs ≤ a.natAbs := Nat.div_le_self _ _
  have h4 : (a.tdiv b).natAbs ≤ a.natAbs := by rw [h]; exact h3
  omega
end Sf
end Go.Cl
namespace Go.Proofs.Ytpdkppimlcbhlaa
open Go.Cl Go.Cl.Sf
theorem agMet : isAggB Try.prog 33 = some true := by kernel_rfl
theorem FontIs.keeps {base : Nat} {s s' : ASt} {q : Nat} {F : Fnt} (h : FontIs base s q F) (k : Stay s.next s s') : FontIs base s' q F := by
  obtain ⟨h0, w, g, h1, h2, h3, h4⟩ := h
  exact ⟨h0, w, g, h1.keeps k, h2.keeps k, h3.keeps k, h4⟩
theorem FontIs.lt {base : Nat} {s : ASt} {q : Nat} {F : Fnt} (h : FontIs base s q F) : q < s.next := by
  obtain ⟨h0, w, g, h1, _⟩ := h
  exact h1.lt
theorem valEq_met (a b : Int) {s : ASt} {w : Value} {n : Nat} {l : List Value} (hw : Own s 1 w n l) : valEq (.agg #[.int .i64 a, .int .i64 b, w]) (.agg #[.int .i64 a, .int .i64 b, w]) = true := by
  cases hw <;> simp [valEq, valEqL, valEq1]
set_option maxHeartbeats 8000000 in
theorem glyph_any (base : Nat) (s : ASt) (q : Nat) (F : Fnt) (c : Int) (h : FontIs base s q F) (hF : FntOk F) :
    Runs Try.prog libN 16 [fptr q, .int .i64 c] s fun v s' => v = .int .i64 (F.glyph c) ∧ s' = s := by
  refine Runs.enter 27 Try.func16 rfl rfl rfl rfl ?_
  intro f hn hf
  have h0 : f.get 0 = fptr q := hf 0
  have h1 : f.get 1 = .int .i64 c := hf 1
  clear hf
  obtain ⟨_, w, g, hq, hw, hg, _⟩ := h
  have l3 := hq.load (P := Try.prog) agInts (off := 3) (c := 5) rfl (by simp)
  have hm := hF.map
  by_cases c1 : c < 0
  · have e : F.glyph c = -1 := by unfold Fnt.glyph; rw [if_pos (by omega)]
    simp (config := { maxSteps := 1000000, implicitDefEqProofs := false }) (disch := omega) only [allW, allR, wfn_ret, wfn_normal, oneOf, evalAll, partsA, optA, Nat.reduceLT, Nat.reduceLeDiff, Nat.reduceEqDiff, Nat.reduceAdd, ↓reduceIte, undef, hn, h0, h1, eql_pnil Try.underlying23, eq_true c1, Try.results16]
    rw [e]
  by_cases c2 : (F.map.length : Int) ≤ c
  · have e : F.glyph c = -1 := by unfold Fnt.glyph; rw [if_pos (by omega)]
    simp (config := { maxSteps := 1000000, implicitDefEqProofs := false }) (disch := omega) only [allW, allR, wfn_ret, wfn_normal, oneOf, evalAll, partsA, optA, Nat.reduceLT, Nat.reduceLeDiff, Nat.reduceEqDiff, Nat.reduceAdd, ↓reduceIte, undef, hn, h0, h1, eql_pnil Try.underlying23, eq_false c1, ff1, Nat.zero_add, l3, hg.sees.lenA Try.underlying30, eq_true c2, Try.results16]
    rw [e]
  have hix := hg.sees.indexAddr (P := Try.prog) (k := .i64) (x := c) Try.underlying30 szInt (by omega) (by omega)
  have hl := hg.sees.load1 (P := Try.prog) agInt (k := c.toNat) (by omega)
  rw [natsV_getD (by omega)] at hl
  have e : F.glyph c = ((F.map.getD c.toNat 0 : Nat) : Int) := (hF.glyph (by omega) (by omega)).1
  simp (config := { maxSteps := 1000000, implicitDefEqProofs := false }) (disch := omega) only [allW, allR, wfn_ret, wfn_normal, oneOf, evalAll, partsA, optA, Nat.reduceLT, Nat.reduceLeDiff, Nat.reduceEqDiff, Nat.reduceAdd, ↓reduceIte, undef, hn, h0, h1, eql_pnil Try.underlying23, eq_false c1, ff1, Nat.zero_add, l3, hg.sees.lenA Try.underlying30, eq_false c2, hix, hl, Try.results16]
  rw [e]
set_option maxHeartbeats 8000000 in
theorem width_any (s : ASt) (U : Value) (F : Fnt) (w : Value) (g : Int) (hw : Own s 1 w F.widths.length (natsV F.widths)) (hF : FntOk F) (hg : -9223372036854775808 ≤ g ∧ g ≤ 9223372036854775807) :
    Runs Try.prog libN 11 [.agg #[U, .int .i64 (F.glyphs : Nat), w], .int .i64 g] s fun v s' => v = .int .i64 (F.width g) ∧ Stay s.next s s' := by
  refine Runs.enter 29 Try.func11 rfl rfl rfl rfl ?_
  intro f hn hf
  have h0 : f.get 0 = .agg #[U, .int .i64 (F.glyphs : Nat), w] := hf 0
  have h1 : f.get 1 = .int .i64 g := hf 1
  clear hf
  have hc : (Value.agg #[U, .int .i64 (F.glyphs : Nat), w]).cells.toList = [U, .int .i64 (F.glyphs : Nat), w] := rfl
  simp (config := { maxSteps := 1000000, implicitDefEqProofs := false }) (disch := omega) only [allW, allR, oneOf, evalAll, partsA, optA, Nat.reduceLT, Nat.reduceLeDiff, Nat.reduceEqDiff, Nat.reduceAdd, ↓reduceIte, hn, h0, h1, szMet, hc]
  refine wstep_newPtr ?_
  intro s1 ht hst hnx
  have hd : [U, .int .i64 (F.glyphs : Nat), w].length + 1 = 4 := rfl
  have hw1 := hw.keeps hst
  have l1 := ht.load (P := Try.prog) agInt (off := 1) (c := 4) rfl (by simp)
  have l2 := ht.load (P := Try.prog) agInts (off := 2) (c := 4) rfl (by simp)
  have hwd := hF.wid
  have hsm := hF.small
  by_cases c1 : g < 0
  · have e : F.width g = -1 := by unfold Fnt.width; rw [if_pos (by omega)]
    simp (config := { maxSteps := 1000000, implicitDefEqProofs := false }) (disch := omega) only [allW, allR, wfn_ret, wfn_normal, oneOf, evalAll, partsA, optA, Nat.reduceLT, Nat.reduceLeDiff, Nat.reduceEqDiff, Nat.reduceAdd, ↓reduceIte, undef, hn, h0, h1, hd, eq_true c1, Try.results11]
    rw [e]; exact ⟨rfl, hst⟩
  by_cases c2 : (F.glyphs : Int) ≤ g
  · have e : F.width g = -1 := by unfold Fnt.width; rw [if_pos (by omega)]
    simp (config := { maxSteps := 1000000, implicitDefEqProofs := false }) (disch := omega) only [allW, allR, wfn_ret, wfn_normal, oneOf, evalAll, partsA, optA, Nat.reduceLT, Nat.reduceLeDiff, Nat.reduceEqDiff, Nat.reduceAdd, ↓reduceIte, undef, hn, h0, h1, hd, eq_false c1, mf1, Nat.zero_add, l1, eq_true c2, Try.results11]
    rw [e]; exact ⟨rfl, hst⟩
  have c3 : ¬ (F.widths.length : Int) = 0 := by omega
  have e : F.width g = ((F.widths.getD (min g.toNat (F.widths.length - 1)) 0 : Nat) : Int) := by unfold Fnt.width; rw [if_neg (by omega)]
  have hl := hw1.sees.load1 (P := Try.prog) agInt (k := min g.toNat (F.widths.length - 1)) (by omega)
  rw [natsV_getD (by omega)] at hl
  by_cases c4 : (F.widths.length : Int) - 1 < g
  · have hix := hw1.sees.indexAddr (P := Try.prog) (k := .i64) (x := (F.widths.length : Int) - 1) Try.underlying30 szInt (by omega) (by omega)
    rw [show ((F.widths.length : Int) - 1).toNat = min g.toNat (F.widths.length - 1) by omega] at hix
    simp (config := { maxSteps := 1000000, implicitDefEqProofs := false }) (disch := omega) only [allW, allR, wfn_ret, wfn_normal, oneOf, evalAll, partsA, optA, Nat.reduceLT, Nat.reduceLeDiff, Nat.reduceEqDiff, Nat.reduceAdd, ↓reduceIte, undef, hn, h0, h1, hd, eq_false c1, mf1, mf2, Nat.zero_add, l1, l2, eq_false c2, hw1.sees.lenA Try.underlying30, eq_false c3, decide_eq_false c3, bin_eql, wrapI, eq_true c4, hix, hl, Try.results11]
    rw [e]; exact ⟨rfl, hst⟩
  · have hix := hw1.sees.indexAddr (P := Try.prog) (k := .i64) (x := g) Try.underlying30 szInt (by omega) (by omega)
    rw [show g.toNat = min g.toNat (F.widths.length - 1) by omega] at hix
    simp (config := { maxSteps := 1000000, implicitDefEqProofs := false }) (disch := omega) only [allW, allR, wfn_ret, wfn_normal, oneOf, evalAll, partsA, optA, Nat.reduceLT, Nat.reduceLeDiff, Nat.reduceEqDiff, Nat.reduceAdd, ↓reduceIte, undef, hn, h0, h1, hd, eq_false c1, mf1, mf2, Nat.zero_add, l1, l2, eq_false c2, hw1.sees.lenA Try.underlying30, eq_false c3, decide_eq_false c3, bin_eql, wrapI, eq_false c4, hix, hl, Try.results11]
    rw [e]; exact ⟨rfl, hst⟩
set_option maxHeartbeats 8000000 in
theorem advance_any (base : Nat) (s : ASt) (q : Nat) (F : Fnt) (c : Int) (h : FontIs base s q F) (hF : FntOk F) :
    Runs Try.prog libN 10 [fptr q, .int .i64 c] s fun v s' => v = .int .i64 (F.advance c) ∧ Stay s.next s s' := by
  refine Runs.enter 32 Try.func10 rfl rfl rfl rfl ?_
  intro f hn hf
  have h0 : f.get 0 = fptr q := hf 0
  have h1 : f.get 1 = .int .i64 c := hf 1
  clear hf
  simp (config := { maxSteps := 1000000, implicitDefEqProofs := false }) (disch := omega) only [allW, allR, oneOf, evalAll, partsA, optA, Nat.reduceLT, Nat.reduceLeDiff, Nat.reduceEqDiff, Nat.reduceAdd, ↓reduceIte, hn, h0, h1]
  refine (glyph_any base s q F c h hF).mono ?_
  rintro _ s1 ⟨rfl, hs⟩; subst hs
  obtain ⟨_, w, g, hq, hw, hg, _⟩ := h
  have hu0 := hF.u0
  have hu1 := hF.u1
  have l0 := hq.load (P := Try.prog) agInt (off := 0) (c := 5) rfl (by simp)
  by_cases c1 : F.glyph c < 0
  · have e : F.advance c = -1 := by unfold Fnt.advance; rw [if_pos (.inl c1)]
    simp (config := { maxSteps := 1000000, implicitDefEqProofs := false }) (disch := omega) only [allW, allR, wfn_ret, wfn_normal, oneOf, evalAll, partsA, optA, Nat.reduceLT, Nat.reduceLeDiff, Nat.reduceEqDiff, Nat.reduceAdd, ↓reduceIte, undef, hn, h0, h1, eq_true c1, Try.results10]
    rw [e]; exact ⟨rfl, Stay.refl _ _⟩
  have c2 : ¬ (F.units : Int) < 1 := by omega
  have e : F.advance c = (1000 * F.width (F.glyph c)).tdiv F.units := by unfold Fnt.advance; rw [if_neg (by omega)]
  simp (config := { maxSteps := 1000000, implicitDefEqProofs := false }) (disch := omega) only [allW, allR, oneOf, evalAll, partsA, optA, Nat.reduceLT, Nat.reduceLeDiff, Nat.reduceEqDiff, Nat.reduceAdd, ↓reduceIte, undef, hn, h0, h1, eq_false c1, ff0, mf0, Nat.add_zero, l0, eq_false c2]
  refine LB.Drawn.looseK (fun j => decide (j < s1.next)) (fun j h => of_decide_eq_true h) 1 0 (by kernel_rfl) (by kernel_rfl) ?_
  rw [spare_zero]
  have lm : loadA Try.prog s1 33 (.pointer (some ⟨q, 0, some 5⟩)) = some (.agg #[.int .i64 (F.units : Nat), .int .i64 (F.glyphs : Nat), w]) := Thing.loadFirst agMet szMet hq (c := 5) rfl (by simp)
  have hvm : valEq (.agg #[.int .i64 (F.units : Nat), .int .i64 (F.glyphs : Nat), w]) (.agg #[.int .i64 (F.units : Nat), .int .i64 (F.glyphs : Nat), w]) = true := valEq_met _ _ hw
  have hlq : LA.lowV (fun j => decide (j < s1.next)) (some (.pointer (some ⟨q, 0, some 5⟩))) = true := LA.lowV_ptr _ (by simp [hq.lt])
  simp (config := { maxSteps := 1000000, implicitDefEqProofs := false }) (disch := omega) only [allW, allR, allL, allB, Nat.sub_self, Nat.add_one_sub_one, Nat.reduceSub, oneOf, evalAll, partsA, optA, Nat.reduceLT, Nat.reduceLeDiff, Nat.reduceEqDiff, Nat.reduceAdd, ↓reduceIte, undef, hn, h0, h1, ff0, mf0, Nat.add_zero, lm, hvm, hlq, valEq_pointer, valEq_int]
  have hgl : -9223372036854775808 ≤ F.glyph c ∧ F.glyph c ≤ 9223372036854775807 := by
    refine ⟨by omega, ?_⟩
    unfold Fnt.glyph
    split
    · omega
    · have := (hF.m1 _ (getD_mem (l := F.map) (i := c.toNat) (by omega))).2; omega
  refine (width_any s1 _ F w (F.glyph c) hw hF hgl).mono ?_
  rintro _ s2 ⟨rfl, hst2⟩
  refine ⟨fun _ => LA.Stay.toA (fun i hi => of_decide_eq_true hi) hst2, ?_⟩
  have l02 := (hq.keeps hst2).load (P := Try.prog) agInt (off := 0) (c := 5) rfl (by simp)
  have hwb := hF.width (F.glyph c)
  have hne : (F.units : Int) ≠ 0 := by omega
  have htd := tdiv_small (a := 1000 * F.width (F.glyph c)) (b := (F.units : Int)) (by omega) (by omega)
  simp (config := { maxSteps := 1000000, implicitDefEqProofs := false }) (disch := omega) only [allW, allR, allL, allB, Nat.sub_self, Nat.add_one_sub_one, Nat.reduceSub, oneOf, evalAll, partsA, optA, Nat.reduceLT, Nat.reduceLeDiff, Nat.reduceEqDiff, Nat.reduceAdd, ↓reduceIte, undef, hn, h0, h1, ff0, mf0, Nat.add_zero, l02, hlq, valEq_pointer, valEq_int, wrapI, bin_quo Try.prog 3 .i64 _ _ hne]
  simp (config := { maxSteps := 1000000, implicitDefEqProofs := false }) (disch := omega) only [allW, allR, wfn_ret, wfn_normal, oneOf, evalAll, partsA, optA, Nat.reduceLT, Nat.reduceLeDiff, Nat.reduceEqDiff, Nat.reduceAdd, ↓reduceIte, undef, hn, Try.results10]
  rw [e]; exact ⟨rfl, hst2⟩
end Go.Proofs.Ytpdkppimlcbhlaa
