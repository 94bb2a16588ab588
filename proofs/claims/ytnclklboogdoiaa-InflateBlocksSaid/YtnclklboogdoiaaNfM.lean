/-
  Inflate, the program: a block's own codes, whole.
-/
import Derived.Test.YtnclklboogdoiaaNfL
set_option linter.unusedSimpArgs false
set_option linter.unusedVariables false
set_option maxRecDepth 100000
namespace Go.Cl.Bt
theorem BTo.late {jx ic : Nat} {s t t' : ASt} {j : Nat} (h : BTo jx ic s t) (hj : s.next ≤ j) (hn : t'.next = t.next) (hs : ∀ i, i ≠ j → t'.heap.get i = t.heap.get i) : BTo jx ic s t' := ⟨by have := h.next; omega, fun i hi h1 h2 => (hs i (by omega)).trans (h.get i hi h1 h2)⟩
theorem BTo.kept {jx ic : Nat} {s t t' : ASt} (h : BTo jx ic s t) (k : Stay t.next t t') : BTo jx ic s t' := ⟨by have := h.next; have := k.next; omega, fun i hi h1 h2 => (k.get i (by have := h.next; omega)).trans (h.get i hi h1 h2)⟩
theorem BTo.turned {jx ic : Nat} {s t t' : ASt} {y : Value} (h : BTo jx ic s t) (k : Turns y t t') (hy : Fresh s.next y) : BTo jx ic s t' := ⟨by have := h.next; have := k.next; omega, fun i hi h1 h2 => (k.get i (by have := h.next; omega) (fun e => by have := hy i e; omega)).trans (h.get i hi h1 h2)⟩
end Go.Cl.Bt
namespace Go.Proofs.Ytnclklboogdoiaa
open Go.Cl Go.Cl.Rw Go.Cl.Sto Go.Cl.Fx Go.Cl.Nf Go.Cl.Bt
theorem Rs.low {base : Nat} {t t' : ASt} {jr jx ic : Nat} {D P : List UInt8} {p : Nat} {M : Int} {o : Value} (h : Rs base t jr jx ic D p P M o) {B : Nat} (hn : t.next ≤ t'.next) (hg : ∀ i, i < B → t'.heap.get i = t.heap.get i) (b1 : base ≤ B) (b2 : jr < B) (b3 : jx < B) (b4 : ic < B) (b5 : ∀ i, idOf o = some i → i < B) : Rs base t' jr jx ic D p P M o := by
  obtain ⟨q5, now, left, hB5, h7⟩ := h.bit
  obtain ⟨bb, c1, c2, c3, c4⟩ := hB5.c
  have hst : Stay base t t' := ⟨hn, fun i hi => hg i (by omega)⟩
  exact ⟨⟨q5, now, left, ⟨⟨bb, thingTo c1 hn (hg ic b4), c2.stay hst, c3, c4⟩, thingTo hB5.t hn (hg jx b3), hB5.e, hB5.l8, hB5.r, hB5.now, hB5.lx, hB5.lc, hB5.ne⟩, h7⟩, thingTo h.t hn (hg jr b2), ownTo h.own hn (fun i hi _ => hg i (b5 i hi)), h.fresh, h.nr, h.nx, h.nc, h.rx, h.rc, h.lr⟩
theorem bCode0 : buildA Try.prog 91 [] = some (.agg (codeV [] (.slice none 0 0)).toArray) := by kernel_rfl
abbrev code0 : Value := .agg (codeV [] (.slice none 0 0)).toArray
/-- What comes of a block's own codes. -/
def DynP (base jr jx ic : Nat) (D P : List UInt8) (M : Int) (o : Value) (s : ASt) (v : Value) (s' : ASt) : Except Nat ((List Nat × List Nat) × Nat) → Prop
  | .ok ((a, b), q) => ∃ sa sb, v = .tuple #[.agg (codeV a sa).toArray, .agg (codeV b sb).toArray, .int .i64 0] ∧ Rs base s' jr jx ic D q P M o ∧ BTo jx ic s s' ∧ Own s' 1 sa (flatA a 15).length (natsV (flatA a 15)) ∧ Own s' 1 sb (flatA b 15).length (natsV (flatA b 15)) ∧ Fresh s.next sa ∧ Fresh s.next sb ∧ a.length ≤ 300 ∧ b.length ≤ 300
  | .error e => 0 < e ∧ v = .tuple #[code0, code0, .int .i64 (e : Nat)] ∧ BTo jx ic s s'
set_option maxHeartbeats 16000000 in
theorem dynP_any {lib : Prims} (hL : NoL lib) (base : Nat) (s : ASt) (jr jx ic : Nat) (D P : List UInt8) (p N : Nat) (M : Int) (o : Value) (h : Rs base s jr jx ic D p P M o) (hb : base ≤ s.next) (hlen : D.length ≤ 1000000) (hN : 8 * D.length + 1 < N) :
    Runs Try.prog lib 56 [rptr jr] s fun v s' => DynP base jr jx ic D P M o s v s' (dynX N D p) := by
  have hlt := h.bit.lt
  have hjrl := h.t.lt
  have hol : ∀ i, idOf o = some i → i < s.next := fun i hi => h.own.idlt i hi
  refine Runs.enter 109 Try.func56 rfl (hL _ rfl) rfl rfl ?_
  intro f hn hf
  have h0 : f.get 0 = rptr jr := hf 0
  clear hf
  simp (config := { maxSteps := 1000000, implicitDefEqProofs := false }) (disch := omega) only [allW, ↓reduceIte, zCode, pCode]
  refine wstep_newPtr ?_
  intro s1 hr1 hst1 hnx1
  obtain ⟨j2, hj2⟩ : ∃ j, j = s.next := ⟨_, rfl⟩
  rw [← hj2] at hr1
  simp (config := { maxSteps := 1000000, implicitDefEqProofs := false }) (disch := omega) only [allW, Nat.reduceLT, Nat.reduceAdd, ↓reduceIte, hn, ← hj2, codeV_length, zCode, pCode]
  refine wstep_newPtr ?_
  intro s2 hr3 hst2 hnx2
  obtain ⟨j3, hj3⟩ : ∃ j, j = s1.next := ⟨_, rfl⟩
  rw [← hj3] at hr3
  have hr2 := hr1.keeps hst2
  have hj2s : s.next ≤ j2 := by omega
  have hj3s : s.next ≤ j3 := by omega
  have hst12 : Stay s.next s s2 := hst1.trans (hst2.weaken (by omega))
  have to2 : BTo jx ic s s2 := ⟨hst12.next, fun i hi _ _ => hst12.get i hi⟩
  have hR2 := h.keeps hb hst12
  have hT : ∀ {t t' : ASt} {j : Nat} {cs : List Value}, Thing t j cs → s.next ≤ j → BTo jx ic t t' → Thing t' j cs := fun h1 h2 k => thingTo h1 k.next (k.get _ h1.lt (by omega) (by omega))
  have hO : ∀ {t t' : ASt} {y : Value} {n : Nat} {L : List Value}, Own t 1 y n L → Fresh s.next y → BTo jx ic t t' → Own t' 1 y n L := fun h1 h2 k => ownTo h1 k.next (fun i hi hl => k.get i hl (by have := h2 i hi; omega) (by have := h2 i hi; omega))
  have hRl : ∀ {t t' : ASt} {q : Nat}, Rs base t jr jx ic D q P M o → t.next ≤ t'.next → (∀ i, i < s.next → t'.heap.get i = t.heap.get i) → Rs base t' jr jx ic D q P M o := fun h1 h2 h3 => h1.low h2 h3 hb hjrl hlt.1 hlt.2.1 hol
  unfold dynX
  simp (config := { maxSteps := 1000000, implicitDefEqProofs := false }) (disch := omega) only [allW, allR, evalAll, Nat.reduceLT, Nat.reduceEqDiff, Nat.reduceAdd, ↓reduceIte, hn, h0, ← hj3, codeV_length]
  refine (headP_any hL base s2 jr jx ic D P p M o hR2 (by omega) hlen).mono ?_
  intro v s3 hH
  cases hh : headX D p with
  | error e =>
    rw [hh] at hH
    obtain ⟨he, ⟨a, b, c, rfl⟩, hto⟩ := hH
    have c0 : ¬ (e : Int) = 0 := by omega
    simp (config := { maxSteps := 1000000, implicitDefEqProofs := false }) (disch := omega) only [allW, allR, partsA, Nat.reduceLT, Nat.reduceEqDiff, ↓reduceIte, hn, ext40, ext41, ext42, ext43, eq_false c0, bCode0]
    refine wstep_storeAll szCode (by decide) (hT hr2 hj2s hto) (codeV_length _ _) rfl (codeV_length _ _) (codeV_ok _ rfl) ?_
    intro u1 hu1 nu1 eu1
    have hv1 : Thing u1 j3 (codeV [] (.slice none 0 0)) := Thing.ofPut (hT hr3 hj3s hto) nu1 eu1 (by omega)
    simp (config := { maxSteps := 1000000, implicitDefEqProofs := false }) (disch := omega) only [allW, Nat.reduceLT, Nat.reduceEqDiff, ↓reduceIte, hn]
    refine wstep_storeAll szCode (by decide) hv1 (codeV_length _ _) rfl (codeV_length _ _) (codeV_ok _ rfl) ?_
    intro u2 hu2 nu2 eu2
    have hu1' : Thing u1 j2 (codeV [] (.slice none 0 0)) := hu1
    have hw1 := hu1'.ofPut nu2 eu2 (by omega)
    have la := hw1.loadAll (P := Try.prog) agCode (by rw [codeV_length]; exact szCode) (c := 18) (by rw [codeV_length])
    have hu2' : Thing u2 j3 (codeV [] (.slice none 0 0)) := hu2
    have lb := hu2'.loadAll (P := Try.prog) agCode (by rw [codeV_length]; exact szCode) (c := 18) (by rw [codeV_length])
    have toU := BTo.late (BTo.late (to2.trans hto) hj2s nu1 eu1) hj3s nu2 eu2
    simp (config := { maxSteps := 1000000, implicitDefEqProofs := false }) (disch := omega) only [allW, wfn_ret, oneOf, Nat.reduceLT, Nat.reduceEqDiff, ↓reduceIte, hn, resultsA_cell, la, lb, Try.results56]
    exact ⟨he, rfl, toU⟩
  | ok c =>
  obtain ⟨n, d, k⟩ := c
  rw [hh] at hH
  obtain ⟨rfl, hR3, to3⟩ := hH
  dsimp only
  have hr2 := hT hr2 hj2s to3
  have hr3 := hT hr3 hj3s to3
  have to3 := to2.trans to3
  have hj2l := hr2.lt
  have hj3l := hr3.lt
  have n3 : s.next ≤ s3.next := to3.next
  have hbn : n ≤ 286 ∧ 257 ≤ n ∧ 1 ≤ d ∧ d ≤ 30 ∧ k ≤ 19 := by
    unfold headX at hh
    cases g1 : takeE D p 5 with
    | error e => rw [g1] at hh; cases hh
    | ok n1 =>
      rw [g1] at hh
      dsimp only at hh
      split at hh
      · cases hh
      cases g2 : takeE D (p + 5) 5 with
      | error e => rw [g2] at hh; cases hh
      | ok d1 =>
        rw [g2] at hh
        dsimp only at hh
        split at hh
        · cases hh
        cases g3 : takeE D (p + 10) 4 with
        | error e => rw [g3] at hh; cases hh
        | ok k1 =>
          rw [g3] at hh
          injection hh with hh; injection hh with a1 hh; injection hh with a2 a3
          have := (takeE_le g3).2
          have := bitsN_lt D (p + 10) 4
          have : (2 : Nat) ^ 4 = 16 := by decide
          omega
  have mk19 : ∀ t : ASt, makeSliceA Try.prog t 63 (.int .i64 19) (.int .i64 19) = newSlice t (List.replicate 19 (.int .i64 0)) 19 1 := fun t => makeInts (n := 19) uIntsF szInt zIntF byIntF (by decide) (by decide)
  simp (config := { maxSteps := 1000000, implicitDefEqProofs := false }) (disch := omega) only [allW, allR, Nat.reduceLT, Nat.reduceEqDiff, ↓reduceIte, hn, ext40, ext41, ext42, ext43, mk19]
  refine wstep_newSlice (by rw [List.length_replicate, Nat.mul_one]) ?_
  intro yc s4 hyc hycF k4
  rw [natsV_rep] at hyc
  have n4 := k4.next
  have hyc3 : ∀ i, idOf yc = some i → s3.next ≤ i := hycF
  have hycF : Fresh s.next yc := fun i hi => by have := hycF i hi; omega
  simp (config := { maxSteps := 1000000, implicitDefEqProofs := false }) (disch := omega) only [allW, partsA, Nat.reduceLT, ↓reduceIte, hn, bOrder]
  refine wstep_newSlice (by rfl) ?_
  intro yo s5 hyo hyoF k5
  have n5 := k5.next
  have hdis : ∀ i, idOf yo = some i → idOf yc ≠ some i := fun i hi e => by have := hyc.idlt i e; have := hyoF i hi; omega
  have hyo3 : ∀ i, idOf yo = some i → s3.next ≤ i := fun i hi => by have := hyoF i hi; omega
  have hyoF : Fresh s.next yo := fun i hi => by have := hyoF i hi; omega
  have hord : order.length = 19 := rfl
  have qk := hyo.sees.sliceHigh (P := Try.prog) (k := .i64) (y := ((k : Nat) : Int)) uIntsF szInt (by omega) (by omega)
  rw [Int.toNat_natCast] at qk
  have kt : BTo jx ic s3 s5 := (BTo.kept (BTo.refl jx ic s3) k4).kept k5
  have hyc5 := hyc.keeps k5
  have hr2 := hT hr2 hj2s kt
  have hr3 := hT hr3 hj3s kt
  have hR5 : Rs base s5 jr jx ic D (p + 14) P M o := hRl hR3 (by omega) (fun i hi => by rw [k5.get i (by omega), k4.get i (by omega)])
  have to5 := to3.trans kt
  have cutK : ∀ t, Own t 1 yo 19 (natsV order) → Sees t 1 (cutS 1 yo 0 k) k (natsV (order.take k)) := fun t h => by
    have := h.sees.cut (lo := 0) (hi := k) (by omega) (by omega)
    rw [Nat.mul_one, Nat.mul_one, natsV_drop, natsV_take, List.drop_zero, Nat.sub_zero] at this
    exact this
  have hk1 := (cutK s5 hyo).lenA (P := Try.prog) uIntsF (s2 := s5)
  obtain ⟨R1, hR1⟩ : ∃ R1, R1 = ownX D (order.take k) (p + 14) (List.replicate 19 0) := ⟨_, rfl⟩
  rw [← hR1]
  clear kt to2 hR2 hR3 hst1 hst2 hst12 hr1 hyc hyoF to3 k4 k5
  simp (config := { maxSteps := 1000000, implicitDefEqProofs := false }) (disch := omega) only [allW, evalAll, optA, Nat.reduceLT, Nat.reduceEqDiff, ↓reduceIte, hn, qk, hk1]
  refine Comes.loopOut (fun z f t => ∃ (i q : Nat) (oL : List Nat), z = k - i ∧ i ≤ k ∧ ownX D ((order.take k).drop i) q oL = R1 ∧ oL.length = 19 ∧ (∀ j, oL.getD j 0 ≤ 7) ∧ Rs base t jr jx ic D q P M o ∧ Own t 1 yc 19 (natsV oL) ∧ Own t 1 yo 19 (natsV order) ∧ Thing t j2 (codeV [] (.slice none 0 0)) ∧ Thing t j3 (codeV [] (.slice none 0 0)) ∧ BTo jx ic s t ∧ s3.next ≤ t.next ∧ f.n = 109 ∧ f.get 0 = rptr jr ∧ f.get 2 = .pointer (some ⟨j2, 0, some 18⟩) ∧ f.get 3 = .pointer (some ⟨j3, 0, some 18⟩) ∧ f.get 5 = .int .i64 (n : Nat) ∧ f.get 6 = .int .i64 (d : Nat) ∧ f.get 9 = yc ∧ f.get 33 = cutS 1 yo 0 k ∧ f.get 34 = .int .i64 (k : Nat) ∧ f.get 35 = .int .i64 (i : Nat))
    (fun z f t => f.n = 109 ∧ f.get 2 = .pointer (some ⟨j2, 0, some 18⟩) ∧ f.get 3 = .pointer (some ⟨j3, 0, some 18⟩) ∧ Thing t j2 (codeV [] (.slice none 0 0)) ∧ Thing t j3 (codeV [] (.slice none 0 0)) ∧ BTo jx ic s t ∧ ((z = .ret ∧ ∃ e, R1 = .error e ∧ 0 < e ∧ f.get 4 = .int .i64 (e : Nat)) ∨ (z = .exit 0 ∧ ∃ (q : Nat) (oL : List Nat), R1 = .ok (oL, q) ∧ oL.length = 19 ∧ (∀ j, oL.getD j 0 ≤ 7) ∧ Rs base t jr jx ic D q P M o ∧ Own t 1 yc 19 (natsV oL) ∧ s3.next ≤ t.next ∧ f.get 0 = rptr jr ∧ f.get 5 = .int .i64 (n : Nat) ∧ f.get 6 = .int .i64 (d : Nat) ∧ f.get 9 = yc)))
    ⟨0, p + 14, _, rfl, by omega, hR1.symm, by simp, fun j => by rw [List.getD_eq_getElem?_getD, List.getElem?_replicate]; split <;> simp, hR5, hyc5, hyo, hr2, hr3, to5, by omega, by simp only [n_put, hn], by simp only [get_put, ↓reduceIte, Nat.reduceEqDiff, h0], by simp only [get_put, ↓reduceIte, Nat.reduceEqDiff], by simp only [get_put, ↓reduceIte, Nat.reduceEqDiff], by simp only [get_put, ↓reduceIte, Nat.reduceEqDiff], by simp only [get_put, ↓reduceIte, Nat.reduceEqDiff], by simp only [get_put, ↓reduceIte, Nat.reduceEqDiff], by simp only [get_put, ↓reduceIte, Nat.reduceEqDiff], by simp only [get_put, ↓reduceIte, Nat.reduceEqDiff], by simp only [get_put, ↓reduceIte]; rfl⟩ ?_ ?_
  · clear hn h0 f hR5 hyc5 hyo hr2 hr3 to5 hk1 qk
    rintro Q hQ z f t ⟨i, q, oL, rfl, hi, hown, hoL, ho7, hR, hyc, hyo, hr2, hr3, hto, hnt, hn, h0, h2, h3, h5, h6, h9, h33, h34, h35⟩
    have hbt : base ≤ t.next := by omega
    by_cases hin : i < k
    rotate_left
    · obtain rfl : i = k := by omega
      have d1 : ¬ ((i : Nat) : Int) < ((i : Nat) : Int) := by omega
      rw [List.drop_of_length_le (by rw [List.length_take]; omega), ownX] at hown
      simp (config := { maxSteps := 1000000, implicitDefEqProofs := false }) (disch := omega) only [allW, Nat.reduceLT, ↓reduceIte, hn, h34, h35, eq_false d1]
      exact hQ _ _ _ ⟨by simp only [n_put, hn], by simp only [get_put, ↓reduceIte, Nat.reduceEqDiff, h2], by simp only [get_put, ↓reduceIte, Nat.reduceEqDiff, h3], hr2, hr3, hto, .inr ⟨rfl, q, oL, hown.symm, hoL, ho7, hR, hyc, hnt, by simp only [get_put, ↓reduceIte, Nat.reduceEqDiff, h0], by simp only [get_put, ↓reduceIte, Nat.reduceEqDiff, h5], by simp only [get_put, ↓reduceIte, Nat.reduceEqDiff, h6], by simp only [get_put, ↓reduceIte, Nat.reduceEqDiff, h9]⟩⟩
    have d1 : ((i : Nat) : Int) < ((k : Nat) : Int) := by omega
    have htk : (order.take k).drop i = order.getD i 0 :: (order.take k).drop (i + 1) := by
      rw [List.drop_eq_getElem_cons (by rw [List.length_take]; omega)]
      congr 1
      rw [List.getElem_take, List.getD_eq_getElem?_getD, List.getElem?_eq_getElem (by omega)]; rfl
    rw [htk, ownX] at hown
    have hol18 : order.getD i 0 < 19 := by
      have key : ∀ i, i < 19 → order.getD i 0 < 19 := by decide
      exact key i (by omega)
    have hcut := cutK t hyo
    have hi1 := hcut.indexAddr (P := Try.prog) (k := .i64) (x := (i : Int)) uIntsF szInt (by omega) (by omega)
    rw [Int.toNat_natCast] at hi1
    have k1 := hcut.load1 (P := Try.prog) agInt hin
    have ekt : (order.take k).getD i 0 = order.getD i 0 := by rw [List.getD_eq_getElem?_getD, List.getElem?_take_of_lt hin, List.getD_eq_getElem?_getD]
    rw [natsV_getD (by rw [List.length_take]; omega), ekt] at k1
    have r0 := hR.t.load (P := Try.prog) agBitsQ (off := 0) (c := 4) rfl (by simp)
    simp (config := { maxSteps := 1000000, implicitDefEqProofs := false }) (disch := omega) only [allW, allR, evalAll, Nat.reduceLT, Nat.reduceEqDiff, ↓reduceIte, hn, h0, h9, h33, h34, h35, eq_true d1, hi1, k1, rfld0, r0]
    refine (number_any hL base t jx ic D q 3 hR.bit hbt (by omega) hlen).mono ?_
    intro v t2 hN
    have hfin : ∀ (k' : BTo jx ic t t2), Own t2 1 yc 19 (natsV oL) ∧ Own t2 1 yo 19 (natsV order) ∧ Thing t2 j2 (codeV [] (.slice none 0 0)) ∧ Thing t2 j3 (codeV [] (.slice none 0 0)) := fun k' => ⟨hO hyc hycF k', hO hyo (fun i hi => by have := hyo3 i hi; omega) k', hT hr2 hj2s k', hT hr3 hj3s k'⟩
    have hj2c : idOf yc ≠ some j2 := fun e => by have := hyc3 _ e; omega
    have hj3c : idOf yc ≠ some j3 := fun e => by have := hyc3 _ e; omega
    by_cases c1 : q + 3 ≤ 8 * D.length
    rotate_left
    · rw [takeE_no c1] at hN hown
      obtain ⟨-, rfl, to2⟩ := hN
      obtain ⟨hyc2, hyo2, hr22, hr32⟩ := hfin to2
      have hi2 := hyc2.sees.indexAddr (P := Try.prog) (k := .i64) (x := ((order.getD i 0 : Nat) : Int)) uIntsF szInt (by omega) (by omega)
      rw [Int.toNat_natCast] at hi2
      simp (config := { maxSteps := 1000000, implicitDefEqProofs := false }) (disch := omega) only [allW, Nat.reduceLT, Nat.reduceEqDiff, ↓reduceIte, hn, ext20, ext21, hi2]
      refine wstep_storeElem szInt hyc2 hol18 rfl ?_
      intro t3 hyc3' hto3
      have toT := (hto.trans to2).turned hto3 hycF
      have hr23 := hr22.turns hto3 hj2c
      have hr33 := hr32.turns hto3 hj3c
      simp (config := { maxSteps := 1000000, implicitDefEqProofs := false }) (disch := omega) only [allW, allR, partsA, Nat.reduceLT, Nat.reduceEqDiff, ↓reduceIte, hn, h2, eq_false (show ¬ (2 : Int) = 0 by decide), bCode0]
      refine wstep_storeAll szCode (by decide) hr23 (codeV_length _ _) rfl (codeV_length _ _) (codeV_ok _ rfl) ?_
      intro u1 hu1 nu1 eu1
      have hv1 : Thing u1 j3 (codeV [] (.slice none 0 0)) := hr33.ofPut nu1 eu1 (by omega)
      simp (config := { maxSteps := 1000000, implicitDefEqProofs := false }) (disch := omega) only [allW, Nat.reduceLT, Nat.reduceEqDiff, ↓reduceIte, hn, h3]
      refine wstep_storeAll szCode (by decide) hv1 (codeV_length _ _) rfl (codeV_length _ _) (codeV_ok _ rfl) ?_
      intro u2 hu2 nu2 eu2
      have hu1' : Thing u1 j2 (codeV [] (.slice none 0 0)) := hu1
      simp (config := { maxSteps := 1000000, implicitDefEqProofs := false }) (disch := omega) only [allW, Nat.reduceLT, ↓reduceIte, hn]
      exact hQ _ _ _ ⟨by simp only [n_put, hn], by simp only [get_put, ↓reduceIte, Nat.reduceEqDiff, h2], by simp only [get_put, ↓reduceIte, Nat.reduceEqDiff, h3], hu1'.ofPut nu2 eu2 (by omega), hu2, BTo.late (BTo.late toT hj2s nu1 eu1) hj3s nu2 eu2, .inl ⟨rfl, 2, hown.symm, by decide, by simp only [get_put, ↓reduceIte]; rfl⟩⟩
    rw [takeE_ok c1] at hN hown
    obtain ⟨rfl, hB2, to2⟩ := hN
    obtain ⟨hyc2, hyo2, hr22, hr32⟩ := hfin to2
    have hR2 := hR.bits hB2 to2
    have hi2 := hyc2.sees.indexAddr (P := Try.prog) (k := .i64) (x := ((order.getD i 0 : Nat) : Int)) uIntsF szInt (by omega) (by omega)
    rw [Int.toNat_natCast] at hi2
    have hv7 := bitsN_lt D q 3
    simp (config := { maxSteps := 1000000, implicitDefEqProofs := false }) (disch := omega) only [allW, Nat.reduceLT, Nat.reduceEqDiff, ↓reduceIte, hn, ext20, ext21, hi2]
    refine wstep_storeElem szInt hyc2 hol18 rfl ?_
    intro t3 hyc3' hto3
    rw [natsV_set] at hyc3'
    have toT := (hto.trans to2).turned hto3 hycF
    simp (config := { maxSteps := 1000000, implicitDefEqProofs := false }) (disch := omega) only [allW, allR, Nat.reduceLT, Nat.reduceEqDiff, ↓reduceIte, hn, h35, wrapI]
    have n23 := to2.next
    have n33 := hto3.next
    exact wround_next (k - (i + 1)) (by omega) ⟨i + 1, q + 3, oL.set (order.getD i 0) (bitsN D q 3), rfl, by omega, hown, by simpa using hoL, fun j => by
      rw [List.getD_eq_getElem?_getD, List.getElem?_set]
      split
      · split
        · show bitsN D q 3 ≤ 7; omega
        · exact Nat.zero_le _
      · rw [← List.getD_eq_getElem?_getD]; exact ho7 j, hRl hR2 n33 (fun i hi => hto3.get i (by omega) (fun e => by have := hyc3 i e; omega)), hyc3', hyo2.turns hto3 hdis, hr22.turns hto3 hj2c, hr32.turns hto3 hj3c, toT, by omega, by simp only [n_put, hn], by simp only [get_put, ↓reduceIte, Nat.reduceEqDiff, h0], by simp only [get_put, ↓reduceIte, Nat.reduceEqDiff, h2], by simp only [get_put, ↓reduceIte, Nat.reduceEqDiff, h3], by simp only [get_put, ↓reduceIte, Nat.reduceEqDiff, h5], by simp only [get_put, ↓reduceIte, Nat.reduceEqDiff, h6], by simp only [get_put, ↓reduceIte, Nat.reduceEqDiff, h9], by simp only [get_put, ↓reduceIte, Nat.reduceEqDiff, h33], by simp only [get_put, ↓reduceIte, Nat.reduceEqDiff, h34], by simp only [get_put, ↓reduceIte]; rfl⟩
  clear hn h0 f hR5 hyc5 hyo hr2 hr3 to5 hk1 qk
  rintro z f t ⟨hn, h2, h3, hr2, hr3, hto, (⟨rfl, e, hRe, he, h4⟩ | ⟨rfl, q, oL, hRq, hoL, ho7, hR, hyc, hnt, h0, h5, h6, h9⟩)⟩
  · have la := hr2.loadAll (P := Try.prog) agCode (by rw [codeV_length]; exact szCode) (c := 18) (by rw [codeV_length])
    have lb := hr3.loadAll (P := Try.prog) agCode (by rw [codeV_length]; exact szCode) (c := 18) (by rw [codeV_length])
    simp (config := { maxSteps := 1000000, implicitDefEqProofs := false }) (disch := omega) only [allW, wfn_ret, oneOf, Nat.reduceLT, ↓reduceIte, hn, h2, h3, h4, resultsA_cell, la, lb, Try.results56]
    rw [hRe]
    exact ⟨he, rfl, hto⟩
  rw [hRq]
  dsimp only
  have hlo : Le15 oL := fun j => Nat.le_trans (ho7 j) (by omega)
  simp (config := { maxSteps := 1000000, implicitDefEqProofs := false }) (disch := omega) only [allW, allR, evalAll, Nat.reduceLT, ↓reduceIte, hn, h9]
  refine (made_any hL t yc oL (by rw [hoL]; exact hyc.sees) (by omega) hlo).mono ?_
  rintro _ t1 ⟨sc, rfl, hsc, hscF, k1⟩
  have n1 := k1.next
  have hR1' : Rs base t1 jr jx ic D q P M o := hRl hR n1 (fun i hi => k1.get i (by omega))
  have kt1 : BTo jx ic t t1 := BTo.kept (BTo.refl jx ic t) k1
  have hr2 := hT hr2 hj2s kt1
  have hr3 := hT hr3 hj3s kt1
  have to1 := hto.trans kt1
  simp (config := { maxSteps := 1000000, implicitDefEqProofs := false }) (disch := omega) only [allW, Nat.reduceLT, Nat.reduceEqDiff, ↓reduceIte, hn, ext20, ext21, zCode, pCode]
  refine wstep_newPtr ?_
  intro t2 hc2 hst2 hnx2
  obtain ⟨jc, hjc⟩ : ∃ j, j = t1.next := ⟨_, rfl⟩
  rw [← hjc] at hc2
  simp (config := { maxSteps := 1000000, implicitDefEqProofs := false }) (disch := omega) only [allW, Nat.reduceLT, Nat.reduceEqDiff, Nat.reduceAdd, ↓reduceIte, hn, ← hjc, codeV_length]
  refine wstep_storeAll szCode (by decide) hc2 (codeV_length _ _) rfl (codeV_length _ _) (codeV_ok _ hsc.sees.okCell) ?_
  intro t3 hc3 hn3 hs3
  have hc3 : Thing t3 jc (codeV oL sc) := hc3
  have hR3 : Rs base t3 jr jx ic D q P M o := hRl hR1' (by omega) (fun i hi => by rw [hs3 i (by omega), hst2.get i (by omega)])
  have hr2 := (hr2.keeps hst2).ofPut hn3 hs3 (by have := hr2.lt; omega)
  have hr3 := (hr3.keeps hst2).ofPut hn3 hs3 (by have := hr3.lt; omega)
  have hsc3 := (hsc.keeps hst2).ofPut hn3 hs3 (fun e => by have := hsc.idlt _ e; omega)
  have to3 := BTo.late (to1.kept hst2) (j := jc) (by omega) hn3 hs3
  have n3' : t3.next = t1.next + 1 := by omega
  by_cases cm : mayC oL
  rotate_left
  · rw [if_neg cm]
    simp (config := { maxSteps := 1000000, implicitDefEqProofs := false }) (disch := omega) only [allW, partsA, Nat.reduceLT, Nat.reduceEqDiff, ↓reduceIte, hn, h2, eq_false cm, bCode0]
    refine wstep_storeAll szCode (by decide) (hr2) (codeV_length _ _) rfl (codeV_length _ _) (codeV_ok _ rfl) ?_
    intro u1 hu1 nu1 eu1
    have hv1 : Thing u1 j3 (codeV [] (.slice none 0 0)) := Thing.ofPut (hr3) nu1 eu1 (by omega)
    simp (config := { maxSteps := 1000000, implicitDefEqProofs := false }) (disch := omega) only [allW, Nat.reduceLT, Nat.reduceEqDiff, ↓reduceIte, hn, h3]
    refine wstep_storeAll szCode (by decide) hv1 (codeV_length _ _) rfl (codeV_length _ _) (codeV_ok _ rfl) ?_
    intro u2 hu2 nu2 eu2
    have hu1' : Thing u1 j2 (codeV [] (.slice none 0 0)) := hu1
    have hw1 := hu1'.ofPut nu2 eu2 (by omega)
    have la := hw1.loadAll (P := Try.prog) agCode (by rw [codeV_length]; exact szCode) (c := 18) (by rw [codeV_length])
    have hu2' : Thing u2 j3 (codeV [] (.slice none 0 0)) := hu2
    have lb := hu2'.loadAll (P := Try.prog) agCode (by rw [codeV_length]; exact szCode) (c := 18) (by rw [codeV_length])
    have toU := BTo.late (BTo.late (to3) hj2s nu1 eu1) hj3s nu2 eu2
    simp (config := { maxSteps := 1000000, implicitDefEqProofs := false }) (disch := omega) only [allW, wfn_ret, oneOf, Nat.reduceLT, Nat.reduceEqDiff, ↓reduceIte, hn, h2, h3, resultsA_cell, la, lb, Try.results56]
    exact ⟨by decide, rfl, toU⟩
  rw [if_pos cm]
  have lall := hc3.loadAll (P := Try.prog) agCode (by rw [codeV_length]; exact szCode) (c := 18) (by rw [codeV_length])
  have eM : ((n : Nat) : Int) + ((d : Nat) : Int) = ((n + d : Nat) : Int) := by omega
  simp (config := { maxSteps := 1000000, implicitDefEqProofs := false }) (disch := omega) only [allW, allR, evalAll, Nat.reduceLT, Nat.reduceEqDiff, ↓reduceIte, hn, h0, h5, h6, eq_true cm, lall, wrapI, eM]
  have hcod : CodP jr jx ic o t3 (.agg (codeV oL sc).toArray) oL := ⟨sc, rfl, ⟨hsc3.sees, fun i hi => ⟨hsc3.idlt i hi, by have := hscF i hi; omega, by have := hscF i hi; omega⟩⟩, fun i hi => ⟨by have := hscF i hi; omega, fun e => by have := hol i e; have := hscF i hi; omega⟩⟩
  refine (lengthsP_any hL base t3 jr jx ic D P q M o hR3 (by omega) hlen _ oL hcod hoL (n + d) N (by omega) hN).mono ?_
  intro v t4 hLn
  cases hlx : lensX D oL (n + d) N q [] with
  | error e =>
    rw [hlx] at hLn
    obtain ⟨he, ⟨w, rfl⟩, to4⟩ := hLn
    have c0 : ¬ (e : Int) = 0 := by omega
    simp (config := { maxSteps := 1000000, implicitDefEqProofs := false }) (disch := omega) only [allW, allR, partsA, Nat.reduceLT, Nat.reduceEqDiff, ↓reduceIte, hn, h2, ext20, ext21, eq_false c0, bCode0]
    refine wstep_storeAll szCode (by decide) (hT hr2 hj2s to4) (codeV_length _ _) rfl (codeV_length _ _) (codeV_ok _ rfl) ?_
    intro u1 hu1 nu1 eu1
    have hv1 : Thing u1 j3 (codeV [] (.slice none 0 0)) := Thing.ofPut (hT hr3 hj3s to4) nu1 eu1 (by omega)
    simp (config := { maxSteps := 1000000, implicitDefEqProofs := false }) (disch := omega) only [allW, Nat.reduceLT, Nat.reduceEqDiff, ↓reduceIte, hn, h3]
    refine wstep_storeAll szCode (by decide) hv1 (codeV_length _ _) rfl (codeV_length _ _) (codeV_ok _ rfl) ?_
    intro u2 hu2 nu2 eu2
    have hu1' : Thing u1 j2 (codeV [] (.slice none 0 0)) := hu1
    have hw1 := hu1'.ofPut nu2 eu2 (by omega)
    have la := hw1.loadAll (P := Try.prog) agCode (by rw [codeV_length]; exact szCode) (c := 18) (by rw [codeV_length])
    have hu2' : Thing u2 j3 (codeV [] (.slice none 0 0)) := hu2
    have lb := hu2'.loadAll (P := Try.prog) agCode (by rw [codeV_length]; exact szCode) (c := 18) (by rw [codeV_length])
    have toU := BTo.late (BTo.late (to3.trans to4) hj2s nu1 eu1) hj3s nu2 eu2
    simp (config := { maxSteps := 1000000, implicitDefEqProofs := false }) (disch := omega) only [allW, wfn_ret, oneOf, Nat.reduceLT, Nat.reduceEqDiff, ↓reduceIte, hn, h2, h3, resultsA_cell, la, lb, Try.results56]
    exact ⟨he, rfl, toU⟩
  | ok lq =>
  obtain ⟨l, q'⟩ := lq
  rw [hlx] at hLn
  obtain ⟨yl, rfl, hyl, hylF, hR4, to4, hl15, hlm⟩ := hLn
  dsimp only
  have hr2 := hT hr2 hj2s to4
  have hr3 := hT hr3 hj3s to4
  have n4' : t3.next ≤ t4.next := to4.next
  have to4 := to3.trans to4
  have hyl4 : ∀ i, idOf yl = some i → t3.next ≤ i := hylF
  have hj2l4 : j2 < t3.next := by omega
  have hj3l4 : j3 < t3.next := by omega
  have ids : ∀ lo hi i, idOf (cutS 1 yl lo hi) = some i → idOf yl = some i := fun lo hi i h => idOf_cutS h
  have q1 := hyl.sees.sliceHigh (P := Try.prog) (k := .i64) (y := ((n : Nat) : Int)) uIntsF szInt (by omega) (by omega)
  rw [Int.toNat_natCast] at q1
  have la : (l.take n).length = n := by rw [List.length_take]; omega
  have lb : (l.drop n).length = l.length - n := by rw [List.length_drop]
  have cutA : ∀ t, Own t 1 yl l.length (natsV l) → Sees t 1 (cutS 1 yl 0 n) (l.take n).length (natsV (l.take n)) := fun t h => by
    have := h.sees.cut (lo := 0) (hi := n) (by omega) (by omega)
    rw [Nat.mul_one, Nat.mul_one, natsV_drop, natsV_take, List.drop_zero, Nat.sub_zero] at this
    rw [la]; exact this
  have cutB : ∀ t, Own t 1 yl l.length (natsV l) → Sees t 1 (cutS 1 yl n l.length) (l.drop n).length (natsV (l.drop n)) := fun t h => by
    have := h.sees.cut (lo := n) (hi := l.length) (by omega) (Nat.le_refl _)
    rw [Nat.mul_one, Nat.mul_one, natsV_drop, natsV_take, List.take_of_length_le (by rw [List.length_drop]; omega)] at this
    rw [lb]; exact this
  simp (config := { maxSteps := 1000000, implicitDefEqProofs := false }) (disch := omega) only [allW, allR, evalAll, optA, Nat.reduceLT, Nat.reduceEqDiff, ↓reduceIte, hn, h5, ext20, ext21, q1]
  refine (made_any hL t4 _ (l.take n) (cutA t4 hyl) (by omega) (le15_take hl15 _)).mono ?_
  rintro _ t5 ⟨sa, rfl, hsa, hsaF, k5⟩
  have n5' := k5.next
  have hyl5 := hyl.keeps k5
  have kt5 : BTo jx ic t4 t5 := BTo.kept (BTo.refl jx ic t4) k5
  have hr2 := hT hr2 hj2s kt5
  have hr3 := hT hr3 hj3s kt5
  have to5 := to4.trans kt5
  have hR5 : Rs base t5 jr jx ic D q' P M o := hRl hR4 n5' (fun i hi => k5.get i (by omega))
  simp (config := { maxSteps := 1000000, implicitDefEqProofs := false }) (disch := omega) only [allW, Nat.reduceLT, Nat.reduceEqDiff, ↓reduceIte, hn, ext20, ext21, zCode, pCode]
  refine wstep_newPtr ?_
  intro t6 hc6 hst6 hnx6
  obtain ⟨ja, hja⟩ : ∃ j, j = t5.next := ⟨_, rfl⟩
  rw [← hja] at hc6
  simp (config := { maxSteps := 1000000, implicitDefEqProofs := false }) (disch := omega) only [allW, Nat.reduceLT, Nat.reduceEqDiff, Nat.reduceAdd, ↓reduceIte, hn, ← hja, codeV_length]
  refine wstep_storeAll szCode (by decide) hc6 (codeV_length _ _) rfl (codeV_length _ _) (codeV_ok _ hsa.sees.okCell) ?_
  intro t7 hc7 hn7 hs7
  have hc7 : Thing t7 ja (codeV (l.take n) sa) := hc7
  have hR7 : Rs base t7 jr jx ic D q' P M o := hRl hR5 (by omega) (fun i hi => by rw [hs7 i (by omega), hst6.get i (by omega)])
  have hr2 := (hr2.keeps hst6).ofPut hn7 hs7 (by omega)
  have hr3 := (hr3.keeps hst6).ofPut hn7 hs7 (by omega)
  have hsa7 := (hsa.keeps hst6).ofPut hn7 hs7 (fun e => by have := hsa.idlt _ e; omega)
  have hyl7 := (hyl5.keeps hst6).ofPut hn7 hs7 (fun e => by have := hyl5.idlt _ e; omega)
  have to7 := BTo.late (to5.kept hst6) (j := ja) (by omega) hn7 hs7
  have q2 := hyl7.sees.sliceLow (P := Try.prog) (k := .i64) (x := ((n : Nat) : Int)) uIntsF szInt (by omega) (by omega)
  rw [Int.toNat_natCast] at q2
  simp (config := { maxSteps := 1000000, implicitDefEqProofs := false }) (disch := omega) only [allW, allR, evalAll, optA, Nat.reduceLT, Nat.reduceEqDiff, ↓reduceIte, hn, h5, q2]
  refine (made_any hL t7 _ (l.drop n) (cutB t7 hyl7) (by omega) (le15_drop hl15 _)).mono ?_
  rintro _ t8 ⟨sb, rfl, hsb, hsbF, k8⟩
  have n8' := k8.next
  have hyl8 := hyl7.keeps k8
  have hsa8 := hsa7.keeps k8
  have hc8 := hc7.keeps k8
  have kt8 : BTo jx ic t7 t8 := BTo.kept (BTo.refl jx ic t7) k8
  have hr2 := hT hr2 hj2s kt8
  have hr3 := hT hr3 hj3s kt8
  have to8 := to7.trans kt8
  have hR8 : Rs base t8 jr jx ic D q' P M o := hRl hR7 n8' (fun i hi => k8.get i (by omega))
  simp (config := { maxSteps := 1000000, implicitDefEqProofs := false }) (disch := omega) only [allW, Nat.reduceLT, Nat.reduceEqDiff, ↓reduceIte, hn, ext20, ext21, zCode, pCode]
  refine wstep_newPtr ?_
  intro t9 hd9 hst9 hnx9
  obtain ⟨jb, hjb⟩ : ∃ j, j = t8.next := ⟨_, rfl⟩
  rw [← hjb] at hd9
  simp (config := { maxSteps := 1000000, implicitDefEqProofs := false }) (disch := omega) only [allW, Nat.reduceLT, Nat.reduceEqDiff, Nat.reduceAdd, ↓reduceIte, hn, ← hjb, codeV_length]
  refine wstep_storeAll szCode (by decide) hd9 (codeV_length _ _) rfl (codeV_length _ _) (codeV_ok _ hsb.sees.okCell) ?_
  intro t10 hd10 hn10 hs10
  have hd10 : Thing t10 jb (codeV (l.drop n) sb) := hd10
  have hR10 : Rs base t10 jr jx ic D q' P M o := hRl hR8 (by omega) (fun i hi => by rw [hs10 i (by omega), hst9.get i (by omega)])
  have hr2 := (hr2.keeps hst9).ofPut hn10 hs10 (by omega)
  have hr3 := (hr3.keeps hst9).ofPut hn10 hs10 (by omega)
  have hc10 := (hc8.keeps hst9).ofPut hn10 hs10 (by omega)
  have hsa10 := (hsa8.keeps hst9).ofPut hn10 hs10 (fun e => by have := hsa8.idlt _ e; omega)
  have hsb10 := (hsb.keeps hst9).ofPut hn10 hs10 (fun e => by have := hsb.idlt _ e; omega)
  have hyl10 := (hyl8.keeps hst9).ofPut hn10 hs10 (fun e => by have := hyl8.idlt _ e; omega)
  have to10 := BTo.late (to8.kept hst9) (j := jb) (by omega) hn10 hs10
  have h256 : 256 < l.length := by omega
  have ia := hyl10.sees.indexAddr (P := Try.prog) (k := .i64) (x := (256 : Int)) uIntsF szInt (by omega) (by omega)
  rw [show (256 : Int).toNat = 256 from rfl] at ia
  have ka := hyl10.sees.load1 (P := Try.prog) agInt h256
  rw [natsV_getD h256] at ka
  by_cases ca : mayC (l.take n)
  rotate_left
  · rw [if_neg (fun h => ca h.1)]
    simp (config := { maxSteps := 1000000, implicitDefEqProofs := false }) (disch := omega) only [allW, allR, partsA, Nat.reduceLT, Nat.reduceEqDiff, ↓reduceIte, undef, hn, h2, eq_false ca, bCode0]
    refine wstep_storeAll szCode (by decide) (hr2) (codeV_length _ _) rfl (codeV_length _ _) (codeV_ok _ rfl) ?_
    intro u1 hu1 nu1 eu1
    have hv1 : Thing u1 j3 (codeV [] (.slice none 0 0)) := Thing.ofPut (hr3) nu1 eu1 (by omega)
    simp (config := { maxSteps := 1000000, implicitDefEqProofs := false }) (disch := omega) only [allW, Nat.reduceLT, Nat.reduceEqDiff, ↓reduceIte, hn, h3]
    refine wstep_storeAll szCode (by decide) hv1 (codeV_length _ _) rfl (codeV_length _ _) (codeV_ok _ rfl) ?_
    intro u2 hu2 nu2 eu2
    have hu1' : Thing u1 j2 (codeV [] (.slice none 0 0)) := hu1
    have hw1 := hu1'.ofPut nu2 eu2 (by omega)
    have la := hw1.loadAll (P := Try.prog) agCode (by rw [codeV_length]; exact szCode) (c := 18) (by rw [codeV_length])
    have hu2' : Thing u2 j3 (codeV [] (.slice none 0 0)) := hu2
    have lb := hu2'.loadAll (P := Try.prog) agCode (by rw [codeV_length]; exact szCode) (c := 18) (by rw [codeV_length])
    have toU := BTo.late (BTo.late (to10) hj2s nu1 eu1) hj3s nu2 eu2
    simp (config := { maxSteps := 1000000, implicitDefEqProofs := false }) (disch := omega) only [allW, wfn_ret, oneOf, Nat.reduceLT, Nat.reduceEqDiff, ↓reduceIte, hn, h2, h3, resultsA_cell, la, lb, Try.results56]
    exact ⟨by decide, rfl, toU⟩
  by_cases cb : mayC (l.drop n)
  rotate_left
  · rw [if_neg (fun h => cb h.2.1)]
    simp (config := { maxSteps := 1000000, implicitDefEqProofs := false }) (disch := omega) only [allW, allR, partsA, Nat.reduceLT, Nat.reduceEqDiff, ↓reduceIte, undef, hn, h2, eq_true ca, eq_false cb, bCode0]
    refine wstep_storeAll szCode (by decide) (hr2) (codeV_length _ _) rfl (codeV_length _ _) (codeV_ok _ rfl) ?_
    intro u1 hu1 nu1 eu1
    have hv1 : Thing u1 j3 (codeV [] (.slice none 0 0)) := Thing.ofPut (hr3) nu1 eu1 (by omega)
    simp (config := { maxSteps := 1000000, implicitDefEqProofs := false }) (disch := omega) only [allW, Nat.reduceLT, Nat.reduceEqDiff, ↓reduceIte, hn, h3]
    refine wstep_storeAll szCode (by decide) hv1 (codeV_length _ _) rfl (codeV_length _ _) (codeV_ok _ rfl) ?_
    intro u2 hu2 nu2 eu2
    have hu1' : Thing u1 j2 (codeV [] (.slice none 0 0)) := hu1
    have hw1 := hu1'.ofPut nu2 eu2 (by omega)
    have la := hw1.loadAll (P := Try.prog) agCode (by rw [codeV_length]; exact szCode) (c := 18) (by rw [codeV_length])
    have hu2' : Thing u2 j3 (codeV [] (.slice none 0 0)) := hu2
    have lb := hu2'.loadAll (P := Try.prog) agCode (by rw [codeV_length]; exact szCode) (c := 18) (by rw [codeV_length])
    have toU := BTo.late (BTo.late (to10) hj2s nu1 eu1) hj3s nu2 eu2
    simp (config := { maxSteps := 1000000, implicitDefEqProofs := false }) (disch := omega) only [allW, wfn_ret, oneOf, Nat.reduceLT, Nat.reduceEqDiff, ↓reduceIte, hn, h2, h3, resultsA_cell, la, lb, Try.results56]
    exact ⟨by decide, rfl, toU⟩
  by_cases cz : l.getD 256 0 = 0
  · have d1 : ((l.getD 256 0 : Nat) : Int) = 0 := by omega
    rw [if_neg (fun h => h.2.2 cz)]
    simp (config := { maxSteps := 1000000, implicitDefEqProofs := false }) (disch := omega) only [allW, allR, partsA, Nat.reduceLT, Nat.reduceEqDiff, ↓reduceIte, undef, hn, h2, eq_true ca, eq_true cb, ia, ka, eq_true d1, bCode0]
    refine wstep_storeAll szCode (by decide) (hr2) (codeV_length _ _) rfl (codeV_length _ _) (codeV_ok _ rfl) ?_
    intro u1 hu1 nu1 eu1
    have hv1 : Thing u1 j3 (codeV [] (.slice none 0 0)) := Thing.ofPut (hr3) nu1 eu1 (by omega)
    simp (config := { maxSteps := 1000000, implicitDefEqProofs := false }) (disch := omega) only [allW, Nat.reduceLT, Nat.reduceEqDiff, ↓reduceIte, hn, h3]
    refine wstep_storeAll szCode (by decide) hv1 (codeV_length _ _) rfl (codeV_length _ _) (codeV_ok _ rfl) ?_
    intro u2 hu2 nu2 eu2
    have hu1' : Thing u1 j2 (codeV [] (.slice none 0 0)) := hu1
    have hw1 := hu1'.ofPut nu2 eu2 (by omega)
    have la := hw1.loadAll (P := Try.prog) agCode (by rw [codeV_length]; exact szCode) (c := 18) (by rw [codeV_length])
    have hu2' : Thing u2 j3 (codeV [] (.slice none 0 0)) := hu2
    have lb := hu2'.loadAll (P := Try.prog) agCode (by rw [codeV_length]; exact szCode) (c := 18) (by rw [codeV_length])
    have toU := BTo.late (BTo.late (to10) hj2s nu1 eu1) hj3s nu2 eu2
    simp (config := { maxSteps := 1000000, implicitDefEqProofs := false }) (disch := omega) only [allW, wfn_ret, oneOf, Nat.reduceLT, Nat.reduceEqDiff, ↓reduceIte, hn, h2, h3, resultsA_cell, la, lb, Try.results56]
    exact ⟨by decide, rfl, toU⟩
  have d1 : ¬ ((l.getD 256 0 : Nat) : Int) = 0 := by omega
  rw [if_pos ⟨ca, cb, cz⟩]
  simp (config := { maxSteps := 1000000, implicitDefEqProofs := false }) (disch := omega) only [allW, allR, Nat.reduceLT, Nat.reduceEqDiff, ↓reduceIte, undef, hn, eq_true ca, eq_true cb, ia, ka, eq_false d1]
  obtain ⟨A, hA⟩ : ∃ A : Nat → Bool, A = fun j => decide (j < t10.next ∧ j ≠ j2 ∧ j ≠ j3) := ⟨_, rfl⟩
  have hAl : ∀ j, A j = true → j < t10.next := by
    intro j h
    rw [hA] at h
    exact (of_decide_eq_true h).1
  have hA0 : A j2 = false := by rw [hA]; exact decide_eq_false (fun h => h.2.1 rfl)
  have hA1 : A j3 = false := by rw [hA]; exact decide_eq_false (fun h => h.2.2 rfl)
  have hsq := Stay.spare t10 0
  have hnq : (spare t10 0).next = t10.next + 0 := spare_next _ _
  have hjal := hc10.lt
  have hjbl := hd10.lt
  have l2 : ∀ k, LA.lowV A (some (.pointer (some ⟨ja, k, some 18⟩))) = true := fun k => LA.lowV_ptr (A := A) (i := ja) (by rw [hA]; exact decide_eq_true ⟨hjal, by omega, by omega⟩)
  have l4 : ∀ k, LA.lowV A (some (.pointer (some ⟨jb, k, some 18⟩))) = true := fun k => LA.lowV_ptr (A := A) (i := jb) (by rw [hA]; exact decide_eq_true ⟨hjbl, by omega, by omega⟩)
  have hcq := (hc10.keeps hsq).loadAll (P := Try.prog) agCode (by rw [codeV_length]; exact szCode) (c := 18) (by rw [codeV_length])
  have hdq := (hd10.keeps hsq).loadAll (P := Try.prog) agCode (by rw [codeV_length]; exact szCode) (c := 18) (by rw [codeV_length])
  refine LB.Drawn.looseK A hAl 2 0 (by kernel_rfl) (by kernel_rfl) ?_
  simp (config := { maxSteps := 1000000, implicitDefEqProofs := false }) (disch := omega) only [allW, allL, allB, Nat.reduceLT, Nat.reduceEqDiff, ↓reduceIte, hn, h2, hcq, hdq, l2, l4, valEq_code _ hsa10.sees, valEq_code _ hsb10.sees]
  refine LB.sstep_storeAll szCode (by decide) (hr2.keeps hsq) (codeV_length _ _) rfl (codeV_length _ _) (codeV_ok _ hsa.sees.okCell) (fun _ => hA0) ?_
  intro u1 hu1 nu1 eu1
  have hdq1 := ((hd10.keeps hsq).ofPut nu1 eu1 (by omega)).loadAll (P := Try.prog) agCode (by rw [codeV_length]; exact szCode) (c := 18) (by rw [codeV_length])
  try simp (config := { maxSteps := 1000000, implicitDefEqProofs := false }) (disch := omega) only [allW, allB, Nat.add_one_sub_one, Nat.reduceLT, Nat.reduceEqDiff, ↓reduceIte, hn, h3]
  refine LB.sstep_storeAll szCode (by decide) ((hr3.keeps hsq).ofPut nu1 eu1 (by omega)) (codeV_length _ _) rfl (codeV_length _ _) (codeV_ok _ hsb.sees.okCell) (fun _ => hA1) ?_
  intro u2 hu2 nu2 eu2
  have hu12 : Thing u2 j2 (codeV (l.take n) sa) := hu1.ofPut nu2 eu2 (by omega)
  have hu22 : Thing u2 j3 (codeV (l.drop n) sb) := hu2
  have lca := hu12.loadAll (P := Try.prog) agCode (by rw [codeV_length]; exact szCode) (c := 18) (by rw [codeV_length])
  have lcb := hu22.loadAll (P := Try.prog) agCode (by rw [codeV_length]; exact szCode) (c := 18) (by rw [codeV_length])
  simp (config := { maxSteps := 1000000, implicitDefEqProofs := false }) (disch := omega) only [allW, allL, allB, Nat.sub_self, oneOf, Nat.reduceLT, Nat.reduceEqDiff, ↓reduceIte, allW, wfn_ret, oneOf, Nat.reduceLT, Nat.reduceEqDiff, ↓reduceIte, hn, h2, h3, resultsA_cell, lca, lcb, Try.results56]
  have toU : BTo jx ic s u2 := BTo.late (BTo.late (to10.kept hsq) hj2s nu1 eu1) hj3s nu2 eu2
  have hRu : Rs base u2 jr jx ic D q' P M o := hRl hR10 (by omega) (fun i hi => by rw [eu2 i (by omega), eu1 i (by omega), hsq.get i (by omega)])
  have fin : ∀ (y : Value) (K : List Nat), Own t10 1 y (flatA K 15).length (natsV (flatA K 15)) → (∀ i, idOf y = some i → t3.next ≤ i) → Own u2 1 y (flatA K 15).length (natsV (flatA K 15)) := fun y K h1 h2 =>
    ((h1.keeps hsq).ofPut nu1 eu1 (fun e => by have := h2 _ e; omega)).ofPut nu2 eu2 (fun e => by have := h2 _ e; omega)
  exact ⟨sa, sb, rfl, hRu, toU, fin sa _ hsa10 (fun i hi => by have := hsaF i hi; omega), fin sb _ hsb10 (fun i hi => by have := hsbF i hi; omega), fun i hi => by have := hsaF i hi; omega, fun i hi => by have := hsbF i hi; omega, by omega, by omega⟩
end Go.Proofs.Ytnclklboogdoiaa
