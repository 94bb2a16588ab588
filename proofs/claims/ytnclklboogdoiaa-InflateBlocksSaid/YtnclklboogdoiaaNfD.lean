/-
  Inflate, the reference: bytes as they are, lengths, distances, a block by its codes.
-/
import Derived.Test.YtnclklboogdoiaaNfA
import Derived.Test.YtnclklboogdoiaaFixE
set_option linter.unusedSimpArgs false
set_option linter.unusedVariables false
set_option maxRecDepth 100000
namespace Go.Proofs.Ytnclklboogdoiaa
open Go.Cl Go.Cl.Rw Go.Cl.Sto Go.Cl.Fx Go.Cl.Nf
/-- What comes of reading. -/
def OutF (base jf jb : Nat) (D : List UInt8) (M : Int) (bv o : Value) (s s' : ASt) : Except Nat (Nat × List UInt8) → Prop
  | .ok (q, P) => ∃ o', Fl base s' jf jb D q P M bv o' ∧ FTo jf jb o s o' s'
  | .error e => Bd base s' jf jb e ∧ Stay base s s'
theorem FTo.puts {jf jb : Nat} {o : Value} {s s' : ASt} (hn : s'.next = s.next) (hs : ∀ i, i ≠ jb → s'.heap.get i = s.heap.get i) : FTo jf jb o s o s' := ⟨by omega, fun i _ _ h2 _ => hs i h2, .inl rfl⟩
set_option maxHeartbeats 8000000 in
theorem fstoredX_any {lib : Prims} (hl : lib.at 33 = none) (hlt : lib.at 32 = none) (hlp : lib.at 57 = none) (hfa : lib.at 37 = none) (base : Nat) (s : ASt) (jf jb : Nat) (D P : List UInt8) (p m : Nat) (bv o : Value) (h : Fl base s jf jb D p P (m : Nat) bv o) (hpD : p ≤ 8 * D.length) (hDl : D.length ≤ 100000000) (hPm : P.length ≤ m) (hm : m ≤ 100000000) (hb : base ≤ s.next) :
    Runs Try.prog lib 33 [bptr jf] s fun _ s' => OutF base jf jb D (m : Nat) bv o s s' (storedX D m p P) := by
  obtain ⟨a, ha⟩ : ∃ a, a = (p + 7) / 8 := ⟨_, rfl⟩
  refine Runs.enter 75 Try.func33 rfl hl rfl rfl ?_
  intro f hn' hf
  have h0 : f.get 0 = bptr jf := hf 0
  clear hf
  have l1 := h.b.load (P := Try.prog) agInt (off := 1) (c := 4) rfl (by simp)
  have w0 := h.f.load (P := Try.prog) agBitsP (off := 0) (c := 4) rfl (by simp)
  have e7 : (p : Int) + 7 = ((p + 7 : Nat) : Int) := by omega
  have e8 : (((p + 7) / 8 : Nat) : Int) * 8 = ((8 * a : Nat) : Int) := by rw [ha]; omega
  simp (config := { maxSteps := 1000000, implicitDefEqProofs := false }) (disch := omega) only [allW]
  refine Drawn.tight' (by kernel_rfl) ?_
  simp (config := { maxSteps := 1000000, implicitDefEqProofs := false }) (disch := omega) only [allW, allR, Nat.reduceLT, Nat.reduceEqDiff, ↓reduceIte, hn', h0, wfld0, tfld1, w0, l1, e7, bin_quo, quo8, wrapI, e8]
  refine vstep_store szInt h.b rfl (by simp) rfl ?_
  intro s1 hb1 hn1 hs1
  have h1 := h.at (p' := 8 * a) hb1 hn1 hs1
  have to1 : FTo jf jb o s o s1 := FTo.puts hn1 hs1
  have w0 := h1.f.load (P := Try.prog) agBitsP (off := 0) (c := 4) rfl (by simp)
  have bad : ∀ (e : Nat) (o1 : Value) (t : ASt), Bd base t jf jb e → FTo jf jb o s o1 t → storedX D m p P = .error e → OutF base jf jb D (m : Nat) bv o s t (storedX D m p P) := fun e o1 t hB hto he => by
    rw [he]; exact ⟨hB, hto.stay h.lf h.lb h.fresh hb⟩
  simp (config := { maxSteps := 1000000, implicitDefEqProofs := false }) (disch := omega) only [allW, allR, evalAll, Nat.reduceLT, Nat.reduceEqDiff, ↓reduceIte, hn', h0, wfld0, w0]
  by_cases r1 : 8 * a + 16 ≤ 8 * D.length
  rotate_left
  · have hR : storedX D m p P = .error 2 := by unfold storedX; rw [← ha, if_neg (by omega)]
    refine (takeS_any hlt hfa base s1 jf jb D P (8 * a) 16 _ bv o h1 (by omega) (by omega) (by omega) (by omega)).mono ?_
    rintro _ s2 ⟨rfl, hB, to2⟩
    obtain ⟨bv', pv', o', m', hB'⟩ := id hB
    have w0 := hB'.f.load (P := Try.prog) agBitsP (off := 0) (c := 4) rfl (by simp)
    have l2 := hB'.b.load (P := Try.prog) agInt (off := 2) (c := 4) rfl (by simp)
    have c0 : ¬ ((2 : Nat) : Int) = 0 := by decide
    simp (config := { maxSteps := 1000000, implicitDefEqProofs := false }) (disch := omega) only [allW, allR, evalAll, Nat.reduceLT, Nat.reduceEqDiff, ↓reduceIte, hn', h0, wfld0, w0]
    refine (takeB_any hlt base s2 jf jb 2 16 hB).mono ?_
    rintro _ s2 ⟨rfl, rfl⟩
    simp (config := { maxSteps := 1000000, implicitDefEqProofs := false }) (disch := omega) only [allW, allR, Nat.reduceLT, Nat.reduceEqDiff, ↓reduceIte, undef, hn', h0, wfld0, tfld2, w0, l2, eq_false c0]
    refine Comes.loopAt (fun z f t => z = 0 ∧ s2 = t ∧ f.n = 75 ∧ f.get 0 = bptr jf ∧ f.get 2 = .int .i64 0 ∧ f.get 4 = .int .i64 0) ⟨rfl, rfl, by simp only [n_put, hn'], by simp only [get_put, ↓reduceIte, Nat.reduceEqDiff, h0], by simp only [get_put, ↓reduceIte, Nat.reduceEqDiff], by simp only [get_put, ↓reduceIte]⟩ ?_
    clear hn' h0 f
    rintro z f _ ⟨rfl, rfl, hn', h0, h2, h4⟩
    simp (config := { maxSteps := 1000000, implicitDefEqProofs := false }) (disch := omega) only [allW, allR, wfn_normal, Nat.reduceLT, Nat.reduceEqDiff, ↓reduceIte, undef, hn', h2, h4, eq_false (show ¬ (0 : Int) < 0 by decide), Try.results33]
    exact bad 2 o s2 hB (to1.trans to2) hR
  refine (takeT_any hlt base s1 jf jb D P (8 * a) 16 _ bv o h1 (by omega) (by omega) (by omega)).mono ?_
  rintro _ s2 ⟨rfl, h2', to2⟩
  have to2 := to1.trans to2
  have hnl := bitsN_lt D (8 * a) 16
  obtain ⟨n, hnn⟩ : ∃ n, n = bitsN D (8 * a) 16 := ⟨_, rfl⟩
  rw [← hnn] at hnl ⊢
  have w0 := h2'.f.load (P := Try.prog) agBitsP (off := 0) (c := 4) rfl (by simp)
  simp (config := { maxSteps := 1000000, implicitDefEqProofs := false }) (disch := omega) only [allW, allR, evalAll, Nat.reduceLT, Nat.reduceEqDiff, ↓reduceIte, hn', h0, wfld0, w0]
  by_cases r2 : 8 * a + 16 + 16 ≤ 8 * D.length
  rotate_left
  · have hR : storedX D m p P = .error 2 := by unfold storedX; rw [← ha, if_neg (by omega)]
    refine (takeS_any hlt hfa base s2 jf jb D P (8 * a + 16) 16 _ bv o h2' (by omega) (by omega) (by omega) (by omega)).mono ?_
    rintro _ s3 ⟨rfl, hB, to3⟩
    obtain ⟨bv', pv', o', m', hB'⟩ := id hB
    have w0 := hB'.f.load (P := Try.prog) agBitsP (off := 0) (c := 4) rfl (by simp)
    have l2 := hB'.b.load (P := Try.prog) agInt (off := 2) (c := 4) rfl (by simp)
    have c0 : ¬ ((2 : Nat) : Int) = 0 := by decide
    simp (config := { maxSteps := 1000000, implicitDefEqProofs := false }) (disch := omega) only [allW, allR, Nat.reduceLT, Nat.reduceEqDiff, ↓reduceIte, undef, hn', h0, wfld0, tfld2, w0, l2, eq_false c0]
    refine Comes.loopAt (fun z f t => z = 0 ∧ s3 = t ∧ f.n = 75 ∧ f.get 0 = bptr jf ∧ f.get 2 = .int .i64 (n : Nat) ∧ f.get 4 = .int .i64 0) ⟨rfl, rfl, by simp only [n_put, hn'], by simp only [get_put, ↓reduceIte, Nat.reduceEqDiff, h0], by simp only [get_put, ↓reduceIte, Nat.reduceEqDiff], by simp only [get_put, ↓reduceIte]⟩ ?_
    clear hn' h0 f
    rintro z f _ ⟨rfl, rfl, hn', h0, h2, h4⟩
    by_cases cn : (0 : Int) < (n : Int)
    · simp (config := { maxSteps := 1000000, implicitDefEqProofs := false }) (disch := omega) only [allW, allR, wfn_normal, Nat.reduceLT, Nat.reduceEqDiff, ↓reduceIte, undef, hn', h0, h2, h4, eq_true cn, wfld0, tfld2, w0, l2, eq_false c0, Try.results33]
      exact bad 2 o s3 hB (to2.trans to3) hR
    · simp (config := { maxSteps := 1000000, implicitDefEqProofs := false }) (disch := omega) only [allW, allR, wfn_normal, Nat.reduceLT, Nat.reduceEqDiff, ↓reduceIte, undef, hn', h2, h4, eq_false cn, Try.results33]
      exact bad 2 o s3 hB (to2.trans to3) hR
  refine (takeT_any hlt base s2 jf jb D P (8 * a + 16) 16 _ bv o h2' (by omega) (by omega) (by omega)).mono ?_
  rintro _ s3 ⟨rfl, h3, to3⟩
  have to3 := to2.trans to3
  have hkl := bitsN_lt D (8 * a + 16) 16
  obtain ⟨k, hkk⟩ : ∃ k, k = bitsN D (8 * a + 16) 16 := ⟨_, rfl⟩
  rw [← hkk] at hkl ⊢
  have hp16 : (2 : Nat) ^ 16 = 65536 := by decide
  have hx := xor16 (m := k) (by omega)
  have w0 := h3.f.load (P := Try.prog) agBitsP (off := 0) (c := 4) rfl (by simp)
  have l2 := h3.b.load (P := Try.prog) agInt (off := 2) (c := 4) rfl (by simp)
  by_cases cx : n + k = 65535
  rotate_left
  · have cx' : ¬ (n : Int) = ((65535 - k : Nat) : Int) := by omega
    have hR : storedX D m p P = .error 4 := by unfold storedX; rw [← ha, if_pos (by omega), ← hnn, ← hkk, if_neg cx]
    simp (config := { maxSteps := 1000000, implicitDefEqProofs := false }) (disch := omega) only [allW, allR, evalAll, Nat.reduceLT, Nat.reduceEqDiff, ↓reduceIte, undef, hn', h0, wfld0, tfld2, w0, l2, bin_xor, hx, eq_false cx']
    refine (fail_any hfa s3 jb bv _ 4 h3.b).mono ?_
    rintro _ s4 ⟨hb4, hn4, hs4⟩
    obtain ⟨hB, to4⟩ := h3.bad (by decide) hb4 hn4 hs4
    obtain ⟨bv', pv', o', m', hB'⟩ := id hB
    have w0 := hB'.f.load (P := Try.prog) agBitsP (off := 0) (c := 4) rfl (by simp)
    have l2 := hB'.b.load (P := Try.prog) agInt (off := 2) (c := 4) rfl (by simp)
    have c0 : ¬ ((4 : Nat) : Int) = 0 := by decide
    simp (config := { maxSteps := 1000000, implicitDefEqProofs := false }) (disch := omega) only [allW, Nat.reduceLT, ↓reduceIte, hn']
    refine Comes.loopAt (fun z f t => z = 0 ∧ s4 = t ∧ f.n = 75 ∧ f.get 0 = bptr jf ∧ f.get 2 = .int .i64 (n : Nat) ∧ f.get 4 = .int .i64 0) ⟨rfl, rfl, by simp only [n_put, hn'], by simp only [get_put, ↓reduceIte, Nat.reduceEqDiff, h0], by simp only [get_put, ↓reduceIte, Nat.reduceEqDiff], by simp only [get_put, ↓reduceIte]⟩ ?_
    clear hn' h0 f
    rintro z f _ ⟨rfl, rfl, hn', h0, h2, h4⟩
    by_cases cn : (0 : Int) < (n : Int)
    · simp (config := { maxSteps := 1000000, implicitDefEqProofs := false }) (disch := omega) only [allW, allR, wfn_normal, Nat.reduceLT, Nat.reduceEqDiff, ↓reduceIte, undef, hn', h0, h2, h4, eq_true cn, wfld0, tfld2, w0, l2, eq_false c0, Try.results33]
      exact bad 4 o s4 hB (to3.trans to4) hR
    · simp (config := { maxSteps := 1000000, implicitDefEqProofs := false }) (disch := omega) only [allW, allR, wfn_normal, Nat.reduceLT, Nat.reduceEqDiff, ↓reduceIte, undef, hn', h2, h4, eq_false cn, Try.results33]
      exact bad 4 o s4 hB (to3.trans to4) hR
  have cx' : (n : Int) = ((65535 - k : Nat) : Int) := by omega
  have hR : storedX D m p P = stoF D m n (a + 4) P := by unfold storedX; rw [← ha, if_pos (by omega), ← hnn, ← hkk, if_pos cx]
  simp (config := { maxSteps := 1000000, implicitDefEqProofs := false }) (disch := omega) only [allW, allR, Nat.reduceLT, Nat.reduceEqDiff, ↓reduceIte, undef, hn', h0, wfld0, tfld2, w0, l2, bin_xor, hx, ← cx']
  rw [hR]
  rw [hR] at bad
  refine Comes.loopAt (fun q f t => ∃ (i : Nat), f.n = 75 ∧ f.get 0 = bptr jf ∧ f.get 2 = .int .i64 (n : Nat) ∧ f.get 4 = .int .i64 (i : Nat) ∧ ((∃ (P1 : List UInt8) (o1 : Value), q = n - i ∧ i ≤ n ∧ a + 4 + i ≤ D.length ∧ stoF D m (n - i) (a + 4 + i) P1 = stoF D m n (a + 4) P ∧ P1.length ≤ m ∧ Fl base t jf jb D (8 * (a + 4 + i)) P1 (m : Nat) bv o1 ∧ FTo jf jb o s o1 t) ∨ (q = 0 ∧ ∃ (e : Nat) (o1 : Value), Bd base t jf jb e ∧ FTo jf jb o s o1 t ∧ stoF D m n (a + 4) P = .error e)))
    ⟨0, by simp only [n_put, hn'], by simp only [get_put, ↓reduceIte, Nat.reduceEqDiff, h0], by simp only [get_put, ↓reduceIte, Nat.reduceEqDiff], by simp only [get_put, ↓reduceIte]; rfl, .inl ⟨P, o, rfl, by omega, by omega, rfl, hPm, by rw [show 8 * (a + 4 + 0) = 8 * a + 16 + 16 by omega]; exact h3, to3⟩⟩ ?_
  clear hn' h0 f w0 l2 h h1 h2' h3 to1 to2 to3 hb1 hn1 hs1 hx l1
  rintro q f s4 ⟨i, hn', h0, h2, h4', (⟨P1, o1, rfl, hi, hiD, hst, hP1, h4, to4⟩ | ⟨rfl, e, o1, hB, to4, he⟩)⟩
  rotate_left
  · obtain ⟨bv', pv', o', m', hB'⟩ := id hB
    have w0 := hB'.f.load (P := Try.prog) agBitsP (off := 0) (c := 4) rfl (by simp)
    have l2 := hB'.b.load (P := Try.prog) agInt (off := 2) (c := 4) rfl (by simp)
    have hp := hB'.pos
    have c0 : ¬ (e : Int) = 0 := by omega
    by_cases cn : (i : Int) < (n : Int)
    · simp (config := { maxSteps := 1000000, implicitDefEqProofs := false }) (disch := omega) only [allW, allR, wfn_normal, Nat.reduceLT, Nat.reduceEqDiff, ↓reduceIte, undef, hn', h0, h2, h4', eq_true cn, wfld0, tfld2, w0, l2, eq_false c0, Try.results33]
      exact bad e o1 s4 hB to4 he
    · simp (config := { maxSteps := 1000000, implicitDefEqProofs := false }) (disch := omega) only [allW, allR, wfn_normal, Nat.reduceLT, Nat.reduceEqDiff, ↓reduceIte, undef, hn', h2, h4', eq_false cn, Try.results33]
      exact bad e o1 s4 hB to4 he
  have w0 := h4.f.load (P := Try.prog) agBitsP (off := 0) (c := 4) rfl (by simp)
  have l2 := h4.b.load (P := Try.prog) agInt (off := 2) (c := 4) rfl (by simp)
  have hb4 : base ≤ s4.next := Nat.le_trans hb to4.next
  by_cases hin : i < n
  rotate_left
  · obtain rfl : i = n := by omega
    have hin' : ¬ (i : Int) < i := by omega
    rw [Nat.sub_self, stoF] at hst
    simp (config := { maxSteps := 1000000, implicitDefEqProofs := false }) (disch := omega) only [allW, allR, wfn_normal, Nat.reduceLT, Nat.reduceEqDiff, ↓reduceIte, undef, hn', h2, h4', eq_false hin', Try.results33]
    rw [← hst]
    exact ⟨o1, h4, to4⟩
  have hin' : (i : Int) < n := by omega
  rw [show n - i = (n - (i + 1)) + 1 by omega, stoF] at hst
  simp (config := { maxSteps := 1000000, implicitDefEqProofs := false }) (disch := omega) only [allW, allR, evalAll, Nat.reduceLT, Nat.reduceEqDiff, ↓reduceIte, undef, hn', h0, h2, h4', eq_true hin', wfld0, tfld2, w0, l2]
  by_cases r3 : a + 4 + i < D.length
  rotate_left
  · rw [if_neg r3] at hst
    refine (takeS_any hlt hfa base s4 jf jb D _ (8 * (a + 4 + i)) 8 _ bv o1 h4 (by omega) (by omega) (by omega) (by omega)).mono ?_
    rintro _ s5 ⟨rfl, hB5, to5⟩
    simp (config := { maxSteps := 1000000, implicitDefEqProofs := false }) (disch := omega) only [allW, allR, evalAll, Nat.reduceLT, Nat.reduceEqDiff, ↓reduceIte, hn', h0, conv_int Try.underlying3 Try.underlying5]
    refine (fputB_any hlp base s5 jf jb 2 _ hB5).mono ?_
    rintro _ s5 rfl
    simp (config := { maxSteps := 1000000, implicitDefEqProofs := false }) (disch := omega) only [allW, Nat.reduceLT, Nat.reduceEqDiff, ↓reduceIte, hn', h4', wrapI]
    exact wround_next 0 (by omega) ⟨i + 1, by simp only [n_put, hn'], by simp only [get_put, ↓reduceIte, Nat.reduceEqDiff, h0], by simp only [get_put, ↓reduceIte, Nat.reduceEqDiff, h2], by simp only [get_put, ↓reduceIte]; rfl, .inr ⟨rfl, 2, o1, hB5, to4.trans to5, hst.symm⟩⟩
  rw [if_pos r3] at hst
  refine (takeT_any hlt base s4 jf jb D _ (8 * (a + 4 + i)) 8 _ bv o1 h4 (by omega) (by omega) (by omega)).mono ?_
  rintro _ s5 ⟨rfl, h5, to5⟩
  have to5 := to4.trans to5
  rw [bits8]
  have hc8 := (D.getD (a + 4 + i) 0).toNat_lt
  have hcv : IntKind.u8.wrap (((D.getD (a + 4 + i) 0).toNat : Nat) : Int) = (((D.getD (a + 4 + i) 0).toNat : Nat) : Int) := by rw [wrapu8]; omega
  simp (config := { maxSteps := 1000000, implicitDefEqProofs := false }) (disch := omega) only [allW, allR, evalAll, Nat.reduceLT, Nat.reduceEqDiff, ↓reduceIte, hn', h0, conv_int Try.underlying3 Try.underlying5, hcv]
  by_cases r4 : m ≤ P1.length
  · rw [if_pos r4] at hst
    refine (fputL_any hlp hfa base s5 jf jb D P1 _ _ (D.getD (a + 4 + i) 0) bv o1 h5 (by omega)).mono ?_
    rintro _ s6 ⟨hB6, to6⟩
    simp (config := { maxSteps := 1000000, implicitDefEqProofs := false }) (disch := omega) only [allW, Nat.reduceLT, Nat.reduceEqDiff, ↓reduceIte, hn', h4', wrapI]
    exact wround_next 0 (by omega) ⟨i + 1, by simp only [n_put, hn'], by simp only [get_put, ↓reduceIte, Nat.reduceEqDiff, h0], by simp only [get_put, ↓reduceIte, Nat.reduceEqDiff, h2], by simp only [get_put, ↓reduceIte]; rfl, .inr ⟨rfl, 7, o1, hB6, to5.trans to6, hst.symm⟩⟩
  rw [if_neg r4] at hst
  refine (fputT_any hlp base s5 jf jb D P1 _ _ (D.getD (a + 4 + i) 0) bv o1 h5 (by omega) (by omega) (Nat.le_trans hb to5.next)).mono ?_
  rintro _ s6 ⟨o6, h6, to6⟩
  simp (config := { maxSteps := 1000000, implicitDefEqProofs := false }) (disch := omega) only [allW, Nat.reduceLT, Nat.reduceEqDiff, ↓reduceIte, hn', h4', wrapI]
  exact wround_next (n - (i + 1)) (by omega) ⟨i + 1, by simp only [n_put, hn'], by simp only [get_put, ↓reduceIte, Nat.reduceEqDiff, h0], by simp only [get_put, ↓reduceIte, Nat.reduceEqDiff, h2], by simp only [get_put, ↓reduceIte]; rfl, .inl ⟨P1 ++ [D.getD (a + 4 + i) 0], o6, rfl, by omega, by omega, hst, by rw [List.length_append]; simp; omega, by rw [show 8 * (a + 4 + (i + 1)) = 8 * (a + 4 + i) + 8 by omega]; exact h6, to5.trans to6⟩⟩
set_option maxHeartbeats 4000000 in
theorem flengthS_any {lib : Prims} (hl : lib.at 59 = none) (hlt : lib.at 32 = none) (hfa : lib.at 37 = none) (base : Nat) (s : ASt) (jf jb : Nat) (D P : List UInt8) (p : Nat) (M : Int) (bv o : Value) (h : Fl base s jf jb D p P M bv o) (hpD : p ≤ 8 * D.length) (hDl : D.length ≤ 1000000000) (q : Nat) (hq1 : 257 ≤ q) (hq : q ≤ 285) (hD : ¬ p + lenW q ≤ 8 * D.length) :
    Runs Try.prog lib 59 [bptr jf, .int .i64 (q : Nat)] s fun v s' => (∃ n : Nat, v = .int .i64 (n : Nat)) ∧ Bd base s' jf jb 2 ∧ FTo jf jb o s o s' := by
  refine Runs.enter 32 Try.func59 rfl hl rfl rfl ?_
  intro f hn hf
  have h0 : f.get 0 = bptr jf := hf 0
  have h1 : f.get 1 = .int .i64 (q : Nat) := hf 1
  clear hf
  have c1 : ¬ q ≤ 264 := fun c => by unfold lenW at hD; rw [if_pos (.inl c)] at hD; omega
  have c2 : ¬ q = 285 := fun c => by unfold lenW at hD; rw [if_pos (.inr c)] at hD; omega
  have d1 : ¬ (q : Int) ≤ 264 := by omega
  have d2 : ¬ (q : Int) = 285 := by omega
  have ew : lenW q = (q - 261) / 4 := by unfold lenW; rw [if_neg (by omega)]
  have e1 : (q : Int) - 261 = ((q - 261 : Nat) : Int) := by omega
  have e2 : (q : Int) - 265 = ((q - 265 : Nat) : Int) := by omega
  have q4 : ((q - 261 : Nat) : Int).tdiv 4 = (((q - 261) / 4 : Nat) : Int) := by rw [Int.tdiv_eq_ediv_of_nonneg (by omega)]; omega
  have r4 : ((q - 265 : Nat) : Int).tmod 4 = (((q - 265) % 4 : Nat) : Int) := by rw [Int.tmod_eq_emod_of_nonneg (by omega)]; omega
  have e3 : (4 : Int) + (((q - 265) % 4 : Nat) : Int) = ((4 + (q - 265) % 4 : Nat) : Int) := by omega
  have hp := pow_le5 (show (q - 261) / 4 ≤ 5 by omega)
  have hm7 : 4 + (q - 265) % 4 ≤ 7 := by omega
  have hx : (4 + (q - 265) % 4) * 2 ^ ((q - 261) / 4) ≤ 7 * 2 ^ 5 := Nat.mul_le_mul hm7 hp
  have hsh := shlS Try.prog 3 .u64 (x := 4 + (q - 265) % 4) (k := (q - 261) / 4) (by omega) (by omega)
  rw [ew] at hD
  generalize hX : (4 + (q - 265) % 4) * 2 ^ ((q - 261) / 4) = X at hx hsh
  have w0 := h.f.load (P := Try.prog) agBitsP (off := 0) (c := 4) rfl (by simp)
  simp (config := { maxSteps := 1000000, implicitDefEqProofs := false }) (disch := omega) only [allW, allR, evalAll, Nat.reduceLT, Nat.reduceEqDiff, ↓reduceIte, hn, h0, h1, eq_false d1, eq_false d2, wrapI, e1, bin_quo, q4, e2, bin_rem, r4, e3, conv_int Try.underlying3 Try.underlying29, wrapu64x, hsh, wfld0, w0]
  refine (takeS_any hlt hfa base s jf jb D P p ((q - 261) / 4) M bv o h (by omega) hD hpD hDl).mono ?_
  rintro _ s2 ⟨rfl, hB, hto⟩
  have e4 : ((X : Nat) : Int) + 3 + 0 = ((X + 3 : Nat) : Int) := by omega
  simp (config := { maxSteps := 1000000, implicitDefEqProofs := false }) (disch := omega) only [allW, wfn_ret, oneOf, Nat.reduceLT, Nat.reduceEqDiff, ↓reduceIte, hn, wrapI, e4, Try.results59]
  exact ⟨⟨_, rfl⟩, hB, hto⟩
set_option maxHeartbeats 4000000 in
theorem fdistanceS_any {lib : Prims} (hl : lib.at 60 = none) (hlt : lib.at 32 = none) (hfa : lib.at 37 = none) (base : Nat) (s : ASt) (jf jb : Nat) (D P : List UInt8) (p : Nat) (M : Int) (bv o : Value) (h : Fl base s jf jb D p P M bv o) (hpD : p ≤ 8 * D.length) (hDl : D.length ≤ 1000000000) (q : Nat) (hq : q ≤ 29) (hD : ¬ p + dstW q ≤ 8 * D.length) :
    Runs Try.prog lib 60 [bptr jf, .int .i64 (q : Nat)] s fun v s' => (∃ n : Nat, v = .int .i64 (n : Nat)) ∧ Bd base s' jf jb 2 ∧ FTo jf jb o s o s' := by
  refine Runs.enter 27 Try.func60 rfl hl rfl rfl ?_
  intro f hn hf
  have h0 : f.get 0 = bptr jf := hf 0
  have h1 : f.get 1 = .int .i64 (q : Nat) := hf 1
  clear hf
  have c1 : ¬ q ≤ 3 := fun c => by unfold dstW at hD; rw [if_pos c] at hD; omega
  have d1 : ¬ (q : Int) ≤ 3 := by omega
  have ew : dstW q = q / 2 - 1 := by unfold dstW; rw [if_neg c1]
  have q4 : (q : Int).tdiv 2 = ((q / 2 : Nat) : Int) := by rw [Int.tdiv_eq_ediv_of_nonneg (by omega)]; omega
  have e1 : ((q / 2 : Nat) : Int) - 1 = ((q / 2 - 1 : Nat) : Int) := by omega
  have r4 : (q : Int).tmod 2 = ((q % 2 : Nat) : Int) := by rw [Int.tmod_eq_emod_of_nonneg (by omega)]; omega
  have e3 : (2 : Int) + ((q % 2 : Nat) : Int) = ((2 + q % 2 : Nat) : Int) := by omega
  have hp := pow_le5 (show q / 2 - 1 ≤ 13 by omega)
  have hm7 : 2 + q % 2 ≤ 3 := by omega
  have hx : (2 + q % 2) * 2 ^ (q / 2 - 1) ≤ 3 * 2 ^ 13 := Nat.mul_le_mul hm7 hp
  have hsh := shlS Try.prog 3 .u64 (x := 2 + q % 2) (k := q / 2 - 1) (by omega) (by omega)
  rw [ew] at hD
  generalize hX : (2 + q % 2) * 2 ^ (q / 2 - 1) = X at hx hsh
  have w0 := h.f.load (P := Try.prog) agBitsP (off := 0) (c := 4) rfl (by simp)
  simp (config := { maxSteps := 1000000, implicitDefEqProofs := false }) (disch := omega) only [allW, allR, evalAll, Nat.reduceLT, Nat.reduceEqDiff, ↓reduceIte, hn, h0, h1, eq_false d1, bin_quo, q4, wrapI, e1, bin_rem, r4, e3, conv_int Try.underlying3 Try.underlying29, wrapu64x, hsh, wfld0, w0]
  refine (takeS_any hlt hfa base s jf jb D P p (q / 2 - 1) M bv o h (by omega) hD hpD hDl).mono ?_
  rintro _ s2 ⟨rfl, hB, hto⟩
  have e4 : ((X : Nat) : Int) + 1 + 0 = ((X + 1 : Nat) : Int) := by omega
  simp (config := { maxSteps := 1000000, implicitDefEqProofs := false }) (disch := omega) only [allW, wfn_ret, oneOf, Nat.reduceLT, Nat.reduceEqDiff, ↓reduceIte, hn, wrapI, e4, Try.results60]
  exact ⟨⟨_, rfl⟩, hB, hto⟩
end Go.Proofs.Ytnclklboogdoiaa
