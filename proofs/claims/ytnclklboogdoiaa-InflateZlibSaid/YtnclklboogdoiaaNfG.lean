/-
  Inflate, the reference: blocks.
-/
import Derived.Test.YtnclklboogdoiaaNfF
import Derived.Test.YtnclklboogdoiaaFixU
set_option linter.unusedSimpArgs false
set_option linter.unusedVariables false
set_option maxRecDepth 100000
namespace Go.Cl.Nf
open Go.Cl.Fx Go.Cl.Sto
theorem blk_eq (N : Nat) (D : List UInt8) (M p : Nat) (P : List UInt8) : blockX N D M p P = bindX (takeS D (takeS D (.ok p) 1) 2) fun r => bindX (bodyX N D M (takeV D (takeS D (.ok p) 1) 2) r P) fun y => .ok (takeV D (.ok p) 1, y.1, y.2) := by
  unfold blockX
  by_cases c1 : p + 1 ≤ 8 * D.length
  rotate_left
  · rw [takeE_no c1, takeS_no c1]; rfl
  rw [takeE_ok c1, takeS_ok c1, takeV_ok c1]
  dsimp only
  by_cases c2 : p + 1 + 2 ≤ 8 * D.length
  rotate_left
  · rw [takeE_no c2, takeS_no c2]; rfl
  rw [takeE_ok c2, takeS_ok c2, takeV_ok c2, bindX_ok]
  dsimp only
  cases bodyX N D M (bitsN D (p + 1) 2) (p + 1 + 2) P with
  | error e => rfl
  | ok y => rfl
theorem ownX_le {D : List UInt8} : ∀ {r : List Nat} {p : Nat} {o o' : List Nat} {q : Nat}, ownX D r p o = .ok (o', q) → p ≤ q
  | [], p, o, o', q, h => by injection h with h; injection h with h1 h2; omega
  | i :: r, p, o, o', q, h => by
    unfold ownX at h
    cases h1 : takeE D p 3 with
    | error e => rw [h1] at h; cases h
    | ok x => rw [h1] at h; have := ownX_le h; omega
theorem againX_le {D : List UInt8} {s p : Nat} {l : List Nat} {x n q : Nat} (h : againX D s p l = .ok (x, n, q)) : p ≤ q := by
  unfold againX at h
  split at h
  · split at h
    · cases h
    · cases h1 : takeE D p 2 with
      | error e => rw [h1] at h; cases h
      | ok y => rw [h1] at h; injection h with h; injection h with _ h; injection h with _ h; omega
  split at h
  · cases h1 : takeE D p 3 with
    | error e => rw [h1] at h; cases h
    | ok y => rw [h1] at h; injection h with h; injection h with _ h; injection h with _ h; omega
  split at h
  · cases h1 : takeE D p 7 with
    | error e => rw [h1] at h; cases h
    | ok y => rw [h1] at h; injection h with h; injection h with _ h; injection h with _ h; omega
  · injection h with h; injection h with _ h; injection h with _ h; omega
theorem lensX_le {D : List UInt8} {C : List Nat} {M : Nat} : ∀ {k p : Nat} {l l' : List Nat} {q : Nat}, lensX D C M k p l = .ok (l', q) → p ≤ q
  | 0, p, l, l', q, h => by cases h
  | k + 1, p, l, l', q, h => by
    unfold lensX at h
    split at h
    · injection h with h; injection h with _ h; omega
    cases h1 : sym D C p with
    | error e => rw [h1] at h; cases h
    | ok c =>
      obtain ⟨c1, c2⟩ := c
      rw [h1] at h
      dsimp only at h
      cases h2 : againX D c1 c2 l with
      | error e => rw [h2] at h; cases h
      | ok a =>
        obtain ⟨a1, a2, a3⟩ := a
        rw [h2] at h
        dsimp only at h
        split at h
        · cases h
        · have := lensX_le h
          have := againX_le h2
          have := sym_le h1
          omega
theorem dynX_le {N : Nat} {D : List UInt8} {p q : Nat} {y : List Nat × List Nat} (h : dynX N D p = .ok (y, q)) : p ≤ q := by
  unfold dynX at h
  cases h1 : headX D p with
  | error e => rw [h1] at h; cases h
  | ok c =>
    rw [h1] at h
    dsimp only at h
    cases h2 : ownX D (order.take c.2.2) (p + 14) (List.replicate 19 0) with
    | error e => rw [h2] at h; cases h
    | ok o =>
      rw [h2] at h
      dsimp only at h
      have := ownX_le (o' := o.1) (q := o.2) h2
      split at h
      · cases h3 : lensX D o.1 (c.1 + c.2.1) N o.2 [] with
        | error e => rw [h3] at h; cases h
        | ok l =>
          rw [h3] at h
          dsimp only at h
          have := lensX_le (l' := l.1) (q := l.2) h3
          split at h
          · injection h with h; injection h with _ h; omega
          · cases h
      · cases h
theorem bodyX_ge {N : Nat} {D : List UInt8} {M kind p : Nat} {P : List UInt8} {q : Nat} {P' : List UInt8} (h : bodyX N D M kind p P = .ok (q, P')) (hp : P.length ≤ M) : p ≤ q := by
  unfold bodyX at h
  split at h
  · exact (storedX_le h hp).1
  split at h
  · exact (codedX_le h hp).1
  split at h
  · cases h1 : dynX N D p with
    | error e => rw [h1] at h; cases h
    | ok c =>
      rw [h1] at h
      have := dynX_le (y := c.1) (q := c.2) h1
      have := (codedX_le h hp).1
      omega
  · cases h
theorem blockX_ge {N : Nat} {D : List UInt8} {M p : Nat} {P : List UInt8} {last q : Nat} {P' : List UInt8} (h : blockX N D M p P = .ok (last, q, P')) (hp : P.length ≤ M) : p + 3 ≤ q := by
  unfold blockX at h
  cases h1 : takeE D p 1 with
  | error e => rw [h1] at h; cases h
  | ok c =>
    rw [h1] at h
    dsimp only at h
    cases h2 : takeE D (p + 1) 2 with
    | error e => rw [h2] at h; cases h
    | ok d =>
      rw [h2] at h
      dsimp only at h
      cases h3 : bodyX N D M d (p + 3) P with
      | error e => rw [h3] at h; cases h
      | ok r =>
        rw [h3] at h
        injection h with h; injection h with e0 h; injection h with e1 e2
        have := bodyX_ge (q := r.1) (P' := r.2) h3 hp
        omega
end Go.Cl.Nf
namespace Go.Proofs.Ytnclklboogdoiaa
open Go.Cl Go.Cl.Rw Go.Cl.Sto Go.Cl.Fx Go.Cl.Nf
def BlkX (s : ASt) (v : Value) (s' : ASt) : Except Nat (Nat × List UInt8) → Prop
  | .ok (q, P) => ∃ o, v = .tuple #[o, .int .i64 ((q + 7) / 8 : Nat), .int .i64 0] ∧ Own s' 1 o P.length (ofBytes P) ∧ Fresh s.next o ∧ Stay s.next s s'
  | .error e => v = .tuple #[.slice none 0 0, .int .i64 0, .int .i64 (e : Nat)] ∧ Stay s.next s s'
set_option maxHeartbeats 16000000 in
theorem rblocksX_any {lib : Prims} (hl : lib.at 20 = none) (hst : lib.at 33 = none) (hdy : lib.at 36 = none) (hta : lib.at 34 = none) (hcd : lib.at 35 = none) (hco : lib.at 46 = none) (hmy : lib.at 61 = none) (hsy : lib.at 58 = none) (hlt : lib.at 32 = none) (hpu : lib.at 57 = none) (hln : lib.at 59 = none) (hds : lib.at 60 = none) (hfa : lib.at 37 = none)
    (s : ASt) (x : Value) (D : List UInt8) (N : Nat) (hx : Sees s 1 x D.length (ofBytes D)) (hDl : D.length ≤ 100000000) (M : Int) (hM : M ≤ 100000000) (hN : 8 * D.length + 1 < N) :
    Runs Try.prog lib 20 [x, .int .i64 M] s fun v s' => BlkX s v s' (inflX N D M.toNat) := by
  obtain ⟨m, hm⟩ : ∃ m, m = M.toNat := ⟨_, rfl⟩
  rw [← hm]
  have hmb : m ≤ 100000000 := by omega
  have hmax : (if M < 0 then (0 : Int) else M) = ((m : Nat) : Int) := by split <;> omega
  refine Runs.enter 121 Try.func20 rfl hl rfl rfl ?_
  intro f hn hf
  have h0 : f.get 0 = x := hf 0
  have h1 : f.get 1 = .int .i64 M := hf 1
  clear hf
  simp (config := { maxSteps := 1000000, implicitDefEqProofs := false }) (disch := omega) only [allW, partsA, Nat.reduceLT, Nat.reduceEqDiff, ↓reduceIte, hn, h0, bBits hx.cell1]
  refine wstep_newPtr ?_
  intro s1 hb1 hst1 hn1
  obtain ⟨jb, hjb⟩ : ∃ j, j = s.next := ⟨_, rfl⟩
  rw [← hjb] at hb1
  simp (config := { maxSteps := 1000000, implicitDefEqProofs := false }) (disch := omega) only [allW, evalAll, partsA, Nat.reduceLT, Nat.reduceEqDiff, Nat.reduceAdd, ↓reduceIte, hn, h1, ← hjb, List.length_cons, List.length_nil, hmax, bFlow]
  refine wstep_newPtr ?_
  intro s2 hf2 hst2 hn2
  obtain ⟨jf, hjf⟩ : ∃ j, j = s1.next := ⟨_, rfl⟩
  rw [← hjf] at hf2
  have hb2 := hb1.keeps hst2
  have hst12 : Stay s.next s s2 := hst1.trans (hst2.weaken (by omega))
  have hF0 : Fl s.next s2 jf jb D 0 [] (m : Nat) x (.slice none 0 0) := ⟨hb2, hf2, (hx.low).stay hst12, .nil, Fresh.nil _, (fun e => by cases e), (fun e => by cases e), by omega, by omega, by omega⟩
  obtain ⟨R, hR⟩ : ∃ R, R = inflX N D m := ⟨_, rfl⟩
  rw [← hR]
  simp (config := { maxSteps := 1000000, implicitDefEqProofs := false }) (disch := omega) only [allW, Nat.reduceLT, Nat.reduceAdd, ↓reduceIte, hn, ← hjf, List.length_cons, List.length_nil]
  refine Comes.loopOut (fun z f t => s.next ≤ t.next ∧ Stay s.next s t ∧ f.n = 121 ∧ f.get 7 = bptr jf ∧ ((∃ (p : Nat) (P : List UInt8) (bv o1 : Value), blocksX N D m z p P = R ∧ 8 * D.length < p + z ∧ p ≤ 8 * D.length ∧ P.length ≤ m ∧ Fl s.next t jf jb D p P (m : Nat) bv o1) ∨ (z = 0 ∧ ∃ e, Bd s.next t jf jb e ∧ R = .error e)))
    (fun z f t => (z = .ret ∧ f.n = 121 ∧ ∃ (q : Nat) (P : List UInt8) (o : Value), R = .ok (q, P) ∧ Own t 1 o P.length (ofBytes P) ∧ Fresh s.next o ∧ Stay s.next s t ∧ f.get 4 = o ∧ f.get 5 = .int .i64 ((q + 7) / 8 : Nat) ∧ f.get 6 = .int .i64 0) ∨ (z = .exit 0 ∧ f.n = 121 ∧ f.get 7 = bptr jf ∧ Stay s.next s t ∧ ∃ e, Bd s.next t jf jb e ∧ R = .error e))
    (k := N) ⟨hst12.next, hst12, by simp only [n_put, hn], by simp only [get_put, ↓reduceIte], .inl ⟨0, [], x, _, hR.symm, by omega, by omega, Nat.zero_le _, hF0⟩⟩ ?_ ?_
  rotate_left
  · clear hn h0 h1 f hF0
    rintro z f t (⟨rfl, hn, q, P, o, hRq, ho, hoF, hs, h4, h5, h6⟩ | ⟨rfl, hn, h7, hs, e, hB, hRe⟩)
    · simp (config := { maxSteps := 1000000, implicitDefEqProofs := false }) (disch := omega) only [allW, wfn_ret, oneOf, Nat.reduceLT, ↓reduceIte, hn, h4, h5, h6, Try.results20]
      rw [hRq]
      exact ⟨o, rfl, ho, hoF, hs⟩
    · obtain ⟨bv', pv', o', m', hB'⟩ := id hB
      have w0 := hB'.f.load (P := Try.prog) agBitsP (off := 0) (c := 4) rfl (by simp)
      have l2 := hB'.b.load (P := Try.prog) agInt (off := 2) (c := 4) rfl (by simp)
      simp (config := { maxSteps := 1000000, implicitDefEqProofs := false }) (disch := omega) only [allW, allR, wfn_ret, oneOf, Nat.reduceLT, Nat.reduceEqDiff, ↓reduceIte, hn, h7, wfld0, tfld2, w0, l2, Try.results20]
      rw [hRe]
      exact ⟨rfl, hs⟩
  clear hn h0 h1 f hF0 hb1 hb2 hf2 hst1 hst2 hst12 hn1 hn2 hR
  rintro Q hQ z f t ⟨hnx, hs, hn, h7, (⟨p, P, bv, o, hz, hpz, hpD, hPm, hF⟩ | ⟨rfl, e, hB, hRe⟩)⟩
  rotate_left
  · obtain ⟨bv', pv', o', m', hB'⟩ := id hB
    have w0 := hB'.f.load (P := Try.prog) agBitsP (off := 0) (c := 4) rfl (by simp)
    have l2 := hB'.b.load (P := Try.prog) agInt (off := 2) (c := 4) rfl (by simp)
    have hp := hB'.pos
    have c0 : ¬ (e : Int) = 0 := by omega
    simp (config := { maxSteps := 1000000, implicitDefEqProofs := false }) (disch := omega) only [allW, allR, Nat.reduceLT, ↓reduceIte, hn, h7, wfld0, tfld2, w0, l2, eq_false c0]
    exact hQ _ _ _ (.inr ⟨rfl, by simp only [n_put, hn], by simp only [get_put, ↓reduceIte, Nat.reduceEqDiff, h7], hs, e, hB, hRe⟩)
  obtain ⟨k, rfl⟩ : ∃ k, z = k + 1 := ⟨z - 1, by omega⟩
  have h0R : RdO s.next jf jb D P (m : Nat) bv o t (.ok p) := ⟨hF, hpD⟩
  have w0 := hF.f.load (P := Try.prog) agBitsP (off := 0) (c := 4) rfl (by simp)
  have l2 := hF.b.load (P := Try.prog) agInt (off := 2) (c := 4) rfl (by simp)
  simp (config := { maxSteps := 1000000, implicitDefEqProofs := false }) (disch := omega) only [allW, allR, evalAll, Nat.reduceLT, Nat.reduceEqDiff, ↓reduceIte, hn, h7, wfld0, tfld2, w0, l2]
  refine (takeX_any hlt hfa s.next t jf jb D P (.ok p) 1 _ bv o h0R (by omega) (by omega)).mono ?_
  rintro _ t1 ⟨rfl, h1R, j1⟩
  obtain ⟨last, elast⟩ : ∃ n, n = takeV D (.ok p) 1 := ⟨_, rfl⟩
  obtain ⟨x1, ex1⟩ : ∃ x, x = takeS D (.ok p) 1 := ⟨_, rfl⟩
  rw [← elast]
  rw [← ex1] at h1R
  simp (config := { maxSteps := 1000000, implicitDefEqProofs := false }) (disch := omega) only [allW, allR, evalAll, Nat.reduceLT, Nat.reduceEqDiff, ↓reduceIte, hn, h7, wfld0, h1R.w0]
  refine (takeX_any hlt hfa s.next t1 jf jb D P x1 2 _ bv o h1R (by omega) (by omega)).mono ?_
  rintro _ t2 ⟨rfl, h2R, j2⟩
  obtain ⟨kind, ekind⟩ : ∃ n, n = takeV D x1 2 := ⟨_, rfl⟩
  obtain ⟨x2, ex2⟩ : ∃ x, x = takeS D x1 2 := ⟨_, rfl⟩
  rw [← ekind]
  rw [← ex2] at h2R
  have hbe := blk_eq N D m p P
  rw [← elast, ← ex1, ← ekind, ← ex2] at hbe
  have hst2 : Stay s.next s t2 := hs.trans ((j1.trans j2).fto.stay hF.lf hF.lb hF.fresh hnx)
  have hnx2 : s.next ≤ t2.next := hst2.next
  have hjf' : jf < t2.next := by have := hF.f.lt; have := (j1.trans j2).1; omega
  have hjb' : jb < t2.next := by have := hF.b.lt; have := (j1.trans j2).1; omega
  simp (config := { maxSteps := 1000000, implicitDefEqProofs := false }) (disch := omega) only [allW, allR, Nat.reduceLT, Nat.reduceEqDiff, ↓reduceIte, hn, h7, wfld0, tfld2, h2R.w0, h2R.l2]
  refine wif_cutN (fun f' t' => f'.n = 121 ∧ f'.get 7 = bptr jf ∧ f'.get 8 = .int .i64 (last : Nat) ∧ s.next ≤ t'.next ∧ Stay s.next s t' ∧ ((∃ (q : Nat) (P' : List UInt8) (o' : Value), blockX N D m p P = .ok (last, q, P') ∧ Fl s.next t' jf jb D q P' (m : Nat) bv o') ∨ (∃ e, blockX N D m p P = .error e ∧ Bd s.next t' jf jb e))) ?_ ?_
  · intro Q' hQ'
    cases x2 with
    | error e =>
      have c0 : ¬ ((badV (.error e) : Nat) : Int) = 0 := fun c => by obtain ⟨q, hq⟩ := h2R.bad.1 (by omega); cases hq
      simp (config := { maxSteps := 1000000, implicitDefEqProofs := false }) (disch := omega) only [allW, allR, eq_false c0]
      exact hQ' _ _ ⟨by simp only [n_put, hn], by simp only [get_put, ↓reduceIte, Nat.reduceEqDiff, h7], by simp only [get_put, ↓reduceIte, Nat.reduceEqDiff], hnx2, hst2, .inr ⟨e, hbe, h2R⟩⟩
    | ok r =>
    have c0 : ((badV (.ok r) : Nat) : Int) = 0 := rfl
    rw [bindX_ok] at hbe
    have hF2 : Fl s.next t2 jf jb D r P (m : Nat) bv o := h2R.1
    have hrD : r ≤ 8 * D.length := h2R.2
    have out : ∀ (f' : AFr) (t' : ASt) (B : Except Nat (Nat × List UInt8)), bodyX N D m kind r P = B → OutF s.next jf jb D (m : Nat) bv o t2 t' B → f'.n = 121 → f'.get 7 = bptr jf → f'.get 8 = .int .i64 (last : Nat) → Q' .normal f' t' := fun f' t' B hB hO h1 h2 h3 => by
      rw [hB] at hbe
      cases B with
      | ok y =>
        obtain ⟨q, P'⟩ := y
        obtain ⟨o', hF', hto⟩ := hO
        have hs' := hto.stay hF2.lf hF2.lb hF2.fresh hnx2
        exact hQ' _ _ ⟨h1, h2, h3, Nat.le_trans hnx2 hs'.next, hst2.trans hs', .inl ⟨q, P', o', hbe, hF'⟩⟩
      | error e =>
        obtain ⟨hB', hs'⟩ := hO
        exact hQ' _ _ ⟨h1, h2, h3, Nat.le_trans hnx2 hs'.next, hst2.trans hs', .inr ⟨e, hbe, hB'⟩⟩
    by_cases ck0 : kind = 0
    · have d0 : ((kind : Nat) : Int) = 0 := by omega
      simp (config := { maxSteps := 1000000, implicitDefEqProofs := false }) (disch := omega) only [allW, allR, evalAll, Nat.reduceLT, Nat.reduceEqDiff, ↓reduceIte, hn, h7, c0, eq_true d0]
      refine (fstoredX_any hst hlt hpu hfa s.next t2 jf jb D P r m bv o hF2 hrD hDl hPm hmb hnx2).mono ?_
      intro _ t3 hO
      simp (config := { maxSteps := 1000000, implicitDefEqProofs := false }) (disch := omega) only [allW, Nat.reduceLT, ↓reduceIte, hn]
      exact out _ _ _ (by unfold bodyX; rw [if_pos ck0]) hO (by simp only [n_put, hn]) (by simp only [get_put, ↓reduceIte, Nat.reduceEqDiff, h7]) (by simp only [get_put, ↓reduceIte, Nat.reduceEqDiff])
    have d0 : ¬ ((kind : Nat) : Int) = 0 := by omega
    by_cases ck1 : kind = 1
    · have d1 : ((kind : Nat) : Int) = 1 := by omega
      simp (config := { maxSteps := 1000000, implicitDefEqProofs := false }) (disch := omega) only [allW, allR, evalAll, Nat.reduceLT, Nat.reduceEqDiff, ↓reduceIte, hn, c0, eq_false d0, eq_true d1]
      refine (tables_any hta t2).mono ?_
      rintro _ t3 ⟨ta, td, rfl, hA, hB, hAF, hBF, k3⟩
      have hF3 : Fl s.next t3 jf jb D r P (m : Nat) bv o := ⟨hF2.b.keeps k3, hF2.f.keeps k3, hF2.low.stay (k3.weaken hnx2), hF2.own.keeps k3, hF2.fresh, hF2.nb, hF2.nf, hF2.ne, hF2.lb, hF2.lf⟩
      have hol : ∀ i, idOf o = some i → i < t2.next := fun i hi => hF2.own.idlt i hi
      have tA : Tab jf jb o t3 ta fixedL := ⟨by have e : fixedL.length = 288 := fixL_length; rw [e]; exact hA.sees, fun i hi => ⟨hA.idlt i hi, by have := hAF i hi; omega, by have := hAF i hi; omega, fun e => by have := hol i e; have := hAF i hi; omega⟩⟩
      have tB : Tab jf jb o t3 td fixedD := ⟨hB.sees, fun i hi => ⟨hB.idlt i hi, by have := hBF i hi; omega, by have := hBF i hi; omega, fun e => by have := hol i e; have := hBF i hi; omega⟩⟩
      have hn3 := k3.next
      simp (config := { maxSteps := 1000000, implicitDefEqProofs := false }) (disch := omega) only [allW, allR, evalAll, Nat.reduceLT, Nat.reduceEqDiff, ↓reduceIte, hn, h7, ext0F', ext1F']
      refine (fcodedX_any hcd hco hsy hlt hpu hln hds hfa s.next t3 jf jb D P r m N bv o hF3 hrD hDl hPm hmb (by omega) (by omega) ta td fixedL fixedD tA tB (by have e : fixedL.length = 288 := fixL_length; omega) (by decide)).mono ?_
      intro _ t4 hO
      simp (config := { maxSteps := 1000000, implicitDefEqProofs := false }) (disch := omega) only [allW, Nat.reduceLT, ↓reduceIte, hn]
      refine out _ t4 (codedX D m fixedL fixedD N r P) (by unfold bodyX; rw [if_neg ck0, if_pos ck1]) ?_ (by simp only [n_put, hn]) (by simp only [get_put, ↓reduceIte, Nat.reduceEqDiff, h7]) (by simp only [get_put, ↓reduceIte, Nat.reduceEqDiff])
      cases hcx : codedX D m fixedL fixedD N r P with
      | error e => rw [hcx] at hO; exact ⟨hO.1, (k3.weaken hnx2).trans hO.2⟩
      | ok y =>
        rw [hcx] at hO
        obtain ⟨o', h1, h2⟩ := hO
        exact ⟨o', h1, FTo.trans ⟨hn3, fun i hi _ _ _ => k3.get i hi, .inl rfl⟩ h2⟩
    have d1 : ¬ ((kind : Nat) : Int) = 1 := by omega
    by_cases ck2 : kind = 2
    · have d2 : ((kind : Nat) : Int) = 2 := by omega
      simp (config := { maxSteps := 1000000, implicitDefEqProofs := false }) (disch := omega) only [allW, allR, evalAll, Nat.reduceLT, Nat.reduceEqDiff, ↓reduceIte, hn, h7, c0, eq_false d0, eq_false d1, eq_true d2]
      refine (fdynX_any hdy hco hmy hsy hlt hfa s.next t2 jf jb D P r m N bv o hF2 hrD hDl hN hnx2).mono ?_
      intro v t3 hD3
      cases hdx : dynX N D r with
      | error e =>
        rw [hdx] at hD3
        obtain ⟨⟨va, vb, rfl⟩, hB, hto⟩ := hD3
        obtain ⟨bv', pv', o', m', hB'⟩ := id hB
        have w0 := hB'.f.load (P := Try.prog) agBitsP (off := 0) (c := 4) rfl (by simp)
        have l2 := hB'.b.load (P := Try.prog) agInt (off := 2) (c := 4) rfl (by simp)
        have hp := hB'.pos
        have c1 : ¬ (e : Int) = 0 := by omega
        simp (config := { maxSteps := 1000000, implicitDefEqProofs := false }) (disch := omega) only [allW, allR, Nat.reduceLT, Nat.reduceEqDiff, ↓reduceIte, undef, hn, h7, ext0F', ext1F', wfld0, tfld2, w0, l2, eq_false c1]
        exact out _ t3 (.error e) (by unfold bodyX; rw [if_neg ck0, if_neg ck1, if_pos ck2, hdx]) ⟨hB, hto.stay hF2.lf hF2.lb hF2.fresh hnx2⟩ (by simp only [n_put, hn]) (by simp only [get_put, ↓reduceIte, Nat.reduceEqDiff, h7]) (by simp only [get_put, ↓reduceIte, Nat.reduceEqDiff])
      | ok y =>
        obtain ⟨⟨a, b⟩, q⟩ := y
        rw [hdx] at hD3
        obtain ⟨va, vb, rfl, hF3, hq3, hto, tA, tB, hla, hlb⟩ := hD3
        have w0 := hF3.f.load (P := Try.prog) agBitsP (off := 0) (c := 4) rfl (by simp)
        have l2 := hF3.b.load (P := Try.prog) agInt (off := 2) (c := 4) rfl (by simp)
        have hn3 := hto.next
        simp (config := { maxSteps := 1000000, implicitDefEqProofs := false }) (disch := omega) only [allW, allR, evalAll, Nat.reduceLT, Nat.reduceEqDiff, ↓reduceIte, undef, hn, h7, ext0F', ext1F', wfld0, tfld2, w0, l2]
        refine (fcodedX_any hcd hco hsy hlt hpu hln hds hfa s.next t3 jf jb D P q m N bv o hF3 hq3 hDl hPm hmb (by omega) (by omega) va vb a b tA tB hla hlb).mono ?_
        intro _ t4 hO
        simp (config := { maxSteps := 1000000, implicitDefEqProofs := false }) (disch := omega) only [allW, Nat.reduceLT, ↓reduceIte, hn]
        refine out _ t4 (codedX D m a b N q P) (by unfold bodyX; rw [if_neg ck0, if_neg ck1, if_pos ck2, hdx]) ?_ (by simp only [n_put, hn]) (by simp only [get_put, ↓reduceIte, Nat.reduceEqDiff, h7]) (by simp only [get_put, ↓reduceIte, Nat.reduceEqDiff])
        cases hcx : codedX D m a b N q P with
        | error e => rw [hcx] at hO; exact ⟨hO.1, (hto.stay hF2.lf hF2.lb hF2.fresh hnx2).trans hO.2⟩
        | ok y =>
          rw [hcx] at hO
          obtain ⟨o', h1, h2⟩ := hO
          exact ⟨o', h1, hto.trans h2⟩
    have d2 : ¬ ((kind : Nat) : Int) = 2 := by omega
    simp (config := { maxSteps := 1000000, implicitDefEqProofs := false }) (disch := omega) only [allW, allR, evalAll, Nat.reduceLT, Nat.reduceEqDiff, ↓reduceIte, hn, h7, c0, eq_false d0, eq_false d1, eq_false d2, wfld0, h2R.w0]
    refine (failX_any hfa s.next t2 jf jb D P r 4 _ bv o h2R (by decide)).mono ?_
    rintro _ t3 ⟨h3R, j3⟩
    simp (config := { maxSteps := 1000000, implicitDefEqProofs := false }) (disch := omega) only [allW, Nat.reduceLT, ↓reduceIte, hn]
    exact out _ t3 (.error 4) (by unfold bodyX; rw [if_neg ck0, if_neg ck1, if_neg ck2]) ⟨h3R, j3.fto.stay hF2.lf hF2.lb hF2.fresh hnx2⟩ (by simp only [n_put, hn]) (by simp only [get_put, ↓reduceIte, Nat.reduceEqDiff, h7]) (by simp only [get_put, ↓reduceIte, Nat.reduceEqDiff])
  clear hn h7 f w0 l2 h1R h2R hbe h0R
  rintro f t' ⟨hn, h7, h8, hnx', hs', (⟨q, P', o', hbx, hF'⟩ | ⟨e, hbx, hB⟩)⟩
  rotate_left
  · obtain ⟨bv', pv', o', m', hB'⟩ := id hB
    have w0 := hB'.f.load (P := Try.prog) agBitsP (off := 0) (c := 4) rfl (by simp)
    have l2 := hB'.b.load (P := Try.prog) agInt (off := 2) (c := 4) rfl (by simp)
    have hp := hB'.pos
    have c0 : ¬ (e : Int) = 0 := by omega
    rw [blocksX, hbx] at hz
    simp (config := { maxSteps := 1000000, implicitDefEqProofs := false }) (disch := omega) only [allW, allR, Nat.reduceLT, Nat.reduceEqDiff, ↓reduceIte, undef, hn, h7, wfld0, tfld2, w0, l2, eq_false c0]
    exact wround_next 0 (by omega) ⟨hnx', hs', by simp only [n_put, hn], by simp only [get_put, ↓reduceIte, Nat.reduceEqDiff, h7], .inr ⟨rfl, e, hB, hz.symm⟩⟩
  have w0 := hF'.f.load (P := Try.prog) agBitsP (off := 0) (c := 4) rfl (by simp)
  have w1 := hF'.f.load (P := Try.prog) agSl (off := 1) (c := 4) rfl (by simp)
  have l1 := hF'.b.load (P := Try.prog) agInt (off := 1) (c := 4) rfl (by simp)
  have l2 := hF'.b.load (P := Try.prog) agInt (off := 2) (c := 4) rfl (by simp)
  have hle := blockX_le hbx hPm
  have hge := blockX_ge hbx hPm
  rw [blocksX, hbx] at hz
  dsimp only at hz
  by_cases cl : last = 1
  · have d1 : ((last : Nat) : Int) = 1 := by omega
    rw [if_pos cl] at hz
    have e7 : ((q : Nat) : Int) + 7 = ((q + 7 : Nat) : Int) := by omega
    simp (config := { maxSteps := 1000000, implicitDefEqProofs := false }) (disch := omega) only [allW, allR, Nat.reduceLT, Nat.reduceEqDiff, ↓reduceIte, undef, hn, h7, h8, wfld0, wfld1, tfld1, tfld2, w0, w1, l1, l2, eq_true d1, hF'.own.self, e7, bin_quo, quo8, wrapI]
    exact hQ _ _ _ (.inl ⟨rfl, by simp only [n_put, hn], q, P', o', hz.symm, hF'.own, hF'.fresh, hs', by simp only [get_put, ↓reduceIte, Nat.reduceEqDiff], by simp only [get_put, ↓reduceIte, Nat.reduceEqDiff], by simp only [get_put, ↓reduceIte]⟩)
  · have d1 : ¬ ((last : Nat) : Int) = 1 := by omega
    rw [if_neg cl] at hz
    simp (config := { maxSteps := 1000000, implicitDefEqProofs := false }) (disch := omega) only [allW, allR, Nat.reduceLT, Nat.reduceEqDiff, ↓reduceIte, undef, hn, h7, h8, wfld0, tfld2, w0, l2, eq_false d1]
    exact wround_next k (by omega) ⟨hnx', hs', by simp only [n_put, hn], by simp only [get_put, ↓reduceIte, Nat.reduceEqDiff, h7], .inl ⟨q, P', bv, o', hz, by omega, hle.1, hle.2.1, hF'⟩⟩
end Go.Proofs.Ytnclklboogdoiaa
