/-
  Deflate by the fixed codes: the reference's block.
-/
import Derived.Test.YtnclklboogdoiaaFixV
import Derived.Test.YtnclklboogdoiaaLow
set_option linter.unusedSimpArgs false
set_option linter.unusedVariables false
set_option maxRecDepth 100000
namespace Go.Cl.Fx
open Go.Cl.Rw Go.Cl.Sto
def ApartR (j : Nat) (v a : Value) : Prop := ∀ i, idOf a = some i → i ≠ j ∧ idOf v ≠ some i
theorem ApartR.own {j : Nat} {v v' a : Value} {s s' : ASt} {n : Nat} {L : List Value} (h : ApartR j v a) (ho : Own s 1 a n L) (k : RowTo j v s v' s') : Own s' 1 a n L ∧ ApartR j v' a := by
  refine ⟨?_, fun i hi => ⟨(h i hi).1, ?_⟩⟩
  · cases ho with
    | nil => exact .nil
    | of i n low l hi hb hl hlen =>
      have := h i rfl
      refine .of i _ low _ (Nat.lt_of_lt_of_le hi k.next) ?_ hl hlen
      simp only [ASt.blk?, k.get i hi this.1 this.2]; exact hb
  · rcases k.id with e | ⟨q, e, hq⟩
    · rw [e]; exact (h i hi).2
    · rw [e]; intro e2; injection e2 with e2; have := ho.idlt i hi; omega
theorem head_two : rput (rput ([], 0) 1 1) 1 2 = headP := by decide
end Go.Cl.Fx
namespace Go.Proofs.Ytnclklboogdoiaa
open Go.Cl Go.Cl.Rw Go.Cl.Sto Go.Cl.Fx
theorem ext0F' (a b : Value) : extractA (.tuple #[a, b]) 0 = some a := rfl
theorem ext1F' (a b : Value) : extractA (.tuple #[a, b]) 1 = some b := rfl
theorem bRw0 : buildA Try.prog 79 [] = some (.agg #[.slice none 0 0, .int .i64 0]) := by kernel_rfl
set_option maxHeartbeats 8000000 in
theorem rfixed_any {lib : Prims} (hl : lib.at 27 = none) (hta : lib.at 34 = none) (hco : lib.at 46 = none) (hal : lib.at 47 = none) (htu : lib.at 48 = none) (hlc : lib.at 49 = none) (hdc : lib.at 50 = none) (hlp : lib.at 45 = none) (hly : lib.at 51 = none) (hlcp : lib.at 22 = none)
    (s : ASt) (x : Value) (l : List UInt8) (hx : Sees s 1 x l.length (ofBytes l)) (hlen : l.length ≤ 10000000) :
    Runs Try.prog lib 27 [x] s (FixedR s l) := by
  refine Runs.enter 115 Try.func27 rfl hl rfl rfl ?_
  intro f hn hf
  have h0 : f.get 0 = x := hf 0
  clear hf
  simp (config := { maxSteps := 1000000, implicitDefEqProofs := false }) (disch := omega) only [allW, partsA, Nat.reduceLT, ↓reduceIte, hn, bRw0]
  refine wstep_newPtr ?_
  intro s1 ht1 hst1 hnx1
  have ht1 : Thing s1 s.next [.slice none 0 0, .int .i64 0] := ht1
  have hr1 : RowAt s.next s1 s.next (.slice none 0 0) ([], 0) := ⟨ht1, .nil, Fresh.nil _, (fun e => by cases e), Nat.le_refl _, ⟨Nat.le_refl _, by decide⟩⟩
  simp (config := { maxSteps := 1000000, implicitDefEqProofs := false }) (disch := omega) only [allW, allR, evalAll, Nat.reduceLT, Nat.reduceAdd, ↓reduceIte, hn, List.length_cons, List.length_nil]
  refine (rput_any hlp s.next s1 s.next (.slice none 0 0) ([], 0) 1 1 hr1 hst1.next (by decide)).mono ?_
  rintro _ s2 ⟨v2, hr2, to2⟩
  have hs2 : Stay s.next s s2 := hst1.trans (to2.stay (Nat.le_refl _) (Fresh.nil _) hst1.next)
  have hr2 : RowAt s.next s2 s.next v2 (rput ([], 0) 1 1) := hr2
  simp (config := { maxSteps := 1000000, implicitDefEqProofs := false }) (disch := omega) only [allW, allR, evalAll, Nat.reduceLT, Nat.reduceEqDiff, ↓reduceIte, hn]
  refine (rput_any hlp s.next s2 s.next v2 _ 1 2 hr2 hs2.next (by decide)).mono ?_
  rintro _ s3 ⟨v3, hr3, to3⟩
  have hs3 : Stay s.next s s3 := hs2.trans (to3.stay (Nat.le_refl _) hr2.fresh hs2.next)
  have hr3 : RowAt s.next s3 s.next v3 (rput (rput ([], 0) 1 1) 1 2) := hr3
  rw [head_two] at hr3
  have n3 := hs3.next
  have hjl := hr3.thing.lt
  simp (config := { maxSteps := 1000000, implicitDefEqProofs := false }) (disch := omega) only [allW, allR, evalAll, Nat.reduceLT, ↓reduceIte, hn]
  refine (tables_any hta s3).mono ?_
  rintro _ s4 ⟨ta, tb, rfl, hA, hB, hAF, hBF, k4⟩
  have n4 := k4.next
  simp (config := { maxSteps := 1000000, implicitDefEqProofs := false }) (disch := omega) only [allW, allR, evalAll, Nat.reduceLT, Nat.reduceEqDiff, ↓reduceIte, hn, ext0F', ext1F']
  have hAl : fixL.length = 288 := fixL_length
  refine (codes_any hco s4 ta fixL (by rw [hAl]; exact hA.sees) (by rw [hAl]; decide)).mono ?_
  rintro tc s5 ⟨hC, -, hCF, k5⟩
  rw [codes_fixL, hAl] at hC
  have hA5 := hA.keeps k5
  have hr5 := (hr3.keeps k4).keeps k5
  have hs5 : Stay s.next s s5 := (hs3.trans (k4.weaken n3)).trans (k5.weaken (by omega))
  have hvl : ∀ i, idOf v3 = some i → i < s3.next := fun i hi => hr3.own.idlt i hi
  have pA : ApartR s.next v3 ta := fun i hi => ⟨by have := hAF i hi; omega, fun e => by have := hvl i e; have := hAF i hi; omega⟩
  have pC : ApartR s.next v3 tc := fun i hi => ⟨by have := hCF i hi; omega, fun e => by have := hvl i e; have := hCF i hi; omega⟩
  have hF := headP_ok.2
  simp (config := { maxSteps := 1000000, implicitDefEqProofs := false }) (disch := omega) only [allW, Nat.reduceLT, ↓reduceIte, hn]
  refine Comes.loopOut (fun z f t => ∃ (a : Nat) (p : List UInt8 × Nat) (v : Value), z = l.length - a ∧ a ≤ l.length ∧ RowAt s.next t s.next v p ∧ p.2 ≤ 3 + 9 * a ∧ fixA l a p = fixA l 0 headP ∧ Stay s.next s t ∧ Own t 1 ta 288 (natsV fixL) ∧ Own t 1 tc 288 (natsV fixK) ∧ ApartR s.next v ta ∧ ApartR s.next v tc ∧ f.n = 115 ∧ f.get 0 = x ∧ f.get 3 = qptr s.next ∧ f.get 4 = ta ∧ f.get 6 = tc ∧ f.get 7 = .int .i64 (a : Nat))
    (fun z f t => z = .exit 0 ∧ ∃ (p : List UInt8 × Nat) (v : Value), RowAt s.next t s.next v p ∧ p.2 ≤ 3 + 9 * l.length ∧ p = fixA l 0 headP ∧ Stay s.next s t ∧ Own t 1 ta 288 (natsV fixL) ∧ Own t 1 tc 288 (natsV fixK) ∧ f.n = 115 ∧ f.get 3 = qptr s.next ∧ f.get 4 = ta ∧ f.get 6 = tc)
    ⟨0, headP, v3, rfl, by omega, hr5, by omega, rfl, hs5, hA5, hC, pA, pC, by simp only [n_put, hn], by simp only [get_put, ↓reduceIte, Nat.reduceEqDiff, h0], by simp only [get_put, ↓reduceIte, Nat.reduceEqDiff], by simp only [get_put, ↓reduceIte, Nat.reduceEqDiff], by simp only [get_put, ↓reduceIte, Nat.reduceEqDiff], by simp only [get_put, ↓reduceIte]; rfl⟩ ?_ ?_
  · clear hn h0 f hA hB hA5 hC hr5 hs5
    rintro Q hQ z f t ⟨a, p, v, rfl, ha, hr, hp, hfx, hst, hA, hC, pA, pC, hn, h0, h3, h4, h6, h7⟩
    have hxt := hx.keeps hst
    by_cases hlt : a < l.length
    rotate_left
    · obtain rfl : a = l.length := by omega
      have d1 : ¬ ((l.length : Nat) : Int) < ((l.length : Nat) : Int) := by omega
      rw [fixA_end l p (Nat.le_refl _)] at hfx
      simp (config := { maxSteps := 1000000, implicitDefEqProofs := false }) (disch := omega) only [allW, evalAll, Nat.reduceLT, Nat.reduceEqDiff, ↓reduceIte, hn, h0, h7, hxt.lenA Try.underlying22, eq_false d1]
      exact hQ _ _ _ ⟨rfl, p, v, hr, hp, hfx, hst, hA, hC, by simp only [n_put, hn], by simp only [get_put, ↓reduceIte, Nat.reduceEqDiff, h3], by simp only [get_put, ↓reduceIte, Nat.reduceEqDiff, h4], by simp only [get_put, ↓reduceIte, Nat.reduceEqDiff, h6]⟩
    have d1 : (a : Int) < (l.length : Int) := by omega
    rw [fixA_step l p hlt] at hfx
    simp (config := { maxSteps := 1000000, implicitDefEqProofs := false }) (disch := omega) only [allW, evalAll, Nat.reduceLT, Nat.reduceEqDiff, ↓reduceIte, hn, h0, h7, hxt.lenA Try.underlying22, eq_true d1]
    refine Comes.loopOut (fun z f t' => ∃ k : Nat, z = far a - k ∧ k ≤ far a ∧ t' = t ∧ f.n = 115 ∧ f.get 0 = x ∧ f.get 3 = qptr s.next ∧ f.get 4 = ta ∧ f.get 6 = tc ∧ f.get 7 = .int .i64 (a : Nat) ∧ f.get 8 = .int .i64 ((best l a k).1 : Nat) ∧ f.get 9 = .int .i64 ((best l a k).2 : Nat) ∧ f.get 10 = .int .i64 ((k : Int) + 1))
      (fun z f t' => z = .exit 2 ∧ t' = t ∧ f.n = 115 ∧ f.get 0 = x ∧ f.get 3 = qptr s.next ∧ f.get 4 = ta ∧ f.get 6 = tc ∧ f.get 7 = .int .i64 (a : Nat) ∧ f.get 8 = .int .i64 ((best l a (far a)).1 : Nat) ∧ f.get 9 = .int .i64 ((best l a (far a)).2 : Nat))
      ⟨0, rfl, by omega, rfl, by simp only [n_put, hn], by simp only [get_put, ↓reduceIte, Nat.reduceEqDiff, h0], by simp only [get_put, ↓reduceIte, Nat.reduceEqDiff, h3], by simp only [get_put, ↓reduceIte, Nat.reduceEqDiff, h4], by simp only [get_put, ↓reduceIte, Nat.reduceEqDiff, h6], by simp only [get_put, ↓reduceIte, Nat.reduceEqDiff, h7], by simp only [get_put, ↓reduceIte, Nat.reduceEqDiff]; rfl, by simp only [get_put, ↓reduceIte, Nat.reduceEqDiff]; rfl, by simp only [get_put, ↓reduceIte]; rfl⟩ ?_ ?_
    · clear hn h0 h3 h4 h6 h7 f
      rintro Q2 hQ2 z f t' ⟨k, rfl, hk, rfl, hn, h0, h3, h4, h6, h7, h8, h9, h10⟩
      by_cases hkf : k < far a
      rotate_left
      · obtain rfl : k = far a := by omega
        by_cases c64 : far a + 1 ≤ 64
        · have d2 : ((far a : Nat) : Int) + 1 ≤ 64 := by omega
          have d3 : ¬ ((far a : Nat) : Int) + 1 ≤ (a : Int) := by unfold far at c64 ⊢; omega
          simp (config := { maxSteps := 1000000, implicitDefEqProofs := false }) (disch := omega) only [allW, allR, Nat.reduceLT, Nat.reduceEqDiff, ↓reduceIte, hn, h7, h10, eq_true d2, eq_false d3]
          exact hQ2 _ _ _ ⟨rfl, rfl, by simp only [n_put, hn], by simp only [get_put, ↓reduceIte, Nat.reduceEqDiff, h0], by simp only [get_put, ↓reduceIte, Nat.reduceEqDiff, h3], by simp only [get_put, ↓reduceIte, Nat.reduceEqDiff, h4], by simp only [get_put, ↓reduceIte, Nat.reduceEqDiff, h6], by simp only [get_put, ↓reduceIte, Nat.reduceEqDiff, h7], by simp only [get_put, ↓reduceIte, Nat.reduceEqDiff, h8], by simp only [get_put, ↓reduceIte, Nat.reduceEqDiff, h9]⟩
        · have d2 : ¬ ((far a : Nat) : Int) + 1 ≤ 64 := by omega
          simp (config := { maxSteps := 1000000, implicitDefEqProofs := false }) (disch := omega) only [allW, allR, Nat.reduceLT, Nat.reduceEqDiff, ↓reduceIte, undef, hn, h10, eq_false d2]
          exact hQ2 _ _ _ ⟨rfl, rfl, by simp only [n_put, hn], by simp only [get_put, ↓reduceIte, Nat.reduceEqDiff, h0], by simp only [get_put, ↓reduceIte, Nat.reduceEqDiff, h3], by simp only [get_put, ↓reduceIte, Nat.reduceEqDiff, h4], by simp only [get_put, ↓reduceIte, Nat.reduceEqDiff, h6], by simp only [get_put, ↓reduceIte, Nat.reduceEqDiff, h7], by simp only [get_put, ↓reduceIte, Nat.reduceEqDiff, h8], by simp only [get_put, ↓reduceIte, Nat.reduceEqDiff, h9]⟩
      have hka : k + 1 ≤ a ∧ k + 1 ≤ 64 := by unfold far at hkf; omega
      have d2 : (k : Int) + 1 ≤ 64 := by omega
      have d2' : (k : Int) + 1 ≤ (a : Int) := by omega
      simp (config := { maxSteps := 1000000, implicitDefEqProofs := false }) (disch := omega) only [allW, allR, evalAll, Nat.reduceLT, Nat.reduceEqDiff, ↓reduceIte, hn, h0, h7, h10, eq_true d2, eq_true d2']
      refine (alike_any hal t' x l hxt (by omega) a (k + 1) (by omega) hka.1 ha).mono ?_
      rintro _ t2 ⟨rfl, rfl⟩
      by_cases c : (best l a k).1 < com l a (k + 1)
      · have d3 : ((com l a (k + 1) : Nat) : Int) > ((best l a k).1 : Nat) := by omega
        have hb : best l a (k + 1) = (com l a (k + 1), k + 1) := by rw [best, if_pos c]
        simp (config := { maxSteps := 1000000, implicitDefEqProofs := false }) (disch := omega) only [allW, Nat.reduceLT, Nat.reduceEqDiff, ↓reduceIte, hn, h8, h10, eq_true d3, wrapI]
        exact wround_next (far a - (k + 1)) (by omega) ⟨k + 1, rfl, by omega, rfl, by simp only [n_put, hn], by simp only [get_put, ↓reduceIte, Nat.reduceEqDiff, h0], by simp only [get_put, ↓reduceIte, Nat.reduceEqDiff, h3], by simp only [get_put, ↓reduceIte, Nat.reduceEqDiff, h4], by simp only [get_put, ↓reduceIte, Nat.reduceEqDiff, h6], by simp only [get_put, ↓reduceIte, Nat.reduceEqDiff, h7], by simp only [get_put, ↓reduceIte, Nat.reduceEqDiff]; rw [hb], by simp only [get_put, ↓reduceIte, Nat.reduceEqDiff]; rw [hb]; rfl, by simp only [get_put, ↓reduceIte]; rfl⟩
      · have d3 : ¬ ((com l a (k + 1) : Nat) : Int) > ((best l a k).1 : Nat) := by omega
        have hb : best l a (k + 1) = best l a k := by rw [best, if_neg c]
        simp (config := { maxSteps := 1000000, implicitDefEqProofs := false }) (disch := omega) only [allW, Nat.reduceLT, Nat.reduceEqDiff, ↓reduceIte, hn, h8, h10, eq_false d3, wrapI]
        exact wround_next (far a - (k + 1)) (by omega) ⟨k + 1, rfl, by omega, rfl, by simp only [n_put, hn], by simp only [get_put, ↓reduceIte, Nat.reduceEqDiff, h0], by simp only [get_put, ↓reduceIte, Nat.reduceEqDiff, h3], by simp only [get_put, ↓reduceIte, Nat.reduceEqDiff, h4], by simp only [get_put, ↓reduceIte, Nat.reduceEqDiff, h6], by simp only [get_put, ↓reduceIte, Nat.reduceEqDiff, h7], by simp only [get_put, ↓reduceIte, Nat.reduceEqDiff, h8]; rw [hb], by simp only [get_put, ↓reduceIte, Nat.reduceEqDiff, h9]; rw [hb], by simp only [get_put, ↓reduceIte]; rfl⟩
    clear hn h0 h3 h4 h6 h7 f
    rintro z f t' ⟨rfl, rfl, hn, h0, h3, h4, h6, h7, h8, h9⟩
    have hsl := stepA_le l hlt
    have hsg := stepA_gt l a
    have hpl := stepP_le l a p
    obtain ⟨B, hB⟩ : ∃ B : Nat → Bool, B = fun j => decide (j < t'.next) := ⟨_, rfl⟩
    have hBl : ∀ j, B j = true → j < t'.next := by
      intro j h
      rw [hB] at h
      exact of_decide_eq_true h
    have hBo : ∀ j, j < t'.next → B j = true := fun j h => by rw [hB]; exact decide_eq_true h
    have lx := fun k => LA.lowV_elemOld hxt hBo (k := k)
    have lA := fun k => LA.lowV_elemOld hA.sees hBo (k := k)
    have lC := fun k => LA.lowV_elemOld hC.sees hBo (k := k)
    have hsq := Stay.spare t' 0
    have hnq : (spare t' 0).next = t'.next + 0 := spare_next _ _
    have toq : RowTo s.next v t' v (spare t' 0) := ⟨by omega, fun i hi _ _ => hsq.get i hi, .inl rfl⟩
    have tab : ∀ (q : Nat), q < 288 → (∀ (K : IntKind), indexAddrA Try.prog 63 tc (.int K (q : Nat)) = some (elemPtr 1 tc q)) ∧ (∀ (K : IntKind), indexAddrA Try.prog 64 ta (.int K (q : Nat)) = some (elemPtr 1 ta q)) ∧ loadA Try.prog (spare t' 0) 3 (elemPtr 1 tc q) = some (.int .i64 ((symC q).1 : Nat)) ∧ loadA Try.prog (spare t' 0) 3 (elemPtr 1 ta q) = some (.int .i64 ((symC q).2 : Nat)) := by
      intro q hq
      have k1 := (hC.keeps hsq).sees.load1 (P := Try.prog) agIntF (k := q) hq
      have k2 := (hA.keeps hsq).sees.load1 (P := Try.prog) agIntF (k := q) hq
      rw [natsV_getD (by rw [fixK_length]; exact hq), fixK_at hq] at k1
      rw [natsV_getD (by rw [fixL_length]; exact hq), fixL_at hq] at k2
      refine ⟨fun K => ?_, fun K => ?_, k1, k2⟩
      · have := (hC.keeps hsq).sees.indexAddr (P := Try.prog) (k := K) (x := (q : Int)) uIntsF szInt (by omega) (by omega)
        rw [Int.toNat_natCast] at this; exact this
      · have := (hA.keeps hsq).sees.indexAddr (P := Try.prog) (k := K) (x := (q : Int)) uCodeF szInt (by omega) (by omega)
        rw [Int.toNat_natCast] at this; exact this
    have hc256 := (l.getD a 0).toNat_lt
    by_cases c3 : (best l a (far a)).1 < 3
    · have d3 : (((best l a (far a)).1 : Nat) : Int) < 3 := by omega
      have eA : stepA l a = a + 1 := by unfold stepA; rw [if_pos c3]
      have eP : stepP l a p = symP p (l.getD a 0).toNat := by unfold stepP; rw [if_pos c3]
      rw [eA, eP] at hfx hpl
      have hi1 := (hxt.keeps hsq).indexAddr (P := Try.prog) (k := .i64) (x := (a : Int)) Try.underlying22 szU8 (by omega) (by omega)
      rw [Int.toNat_natCast] at hi1
      have k1 := (hxt.keeps hsq).load1 (P := Try.prog) agU8 hlt
      rw [ofBytes_getD hlt] at k1
      obtain ⟨i2, i3, k2, k3⟩ := tab (l.getD a 0).toNat (by omega)
      have hsw := symC_snd (l.getD a 0).toNat
      simp (config := { maxSteps := 1000000, implicitDefEqProofs := false }) (disch := omega) only [allW, Nat.reduceLT, ↓reduceIte, hn, h8, eq_true d3]
      refine LB.Drawn.looseK B hBl 0 0 (by kernel_rfl) (by kernel_rfl) ?_
      simp (config := { maxSteps := 1000000, implicitDefEqProofs := false }) (disch := omega) only [allW, allR, allL, allB, Nat.reduceSub, evalAll, Nat.reduceLT, Nat.reduceEqDiff, ↓reduceIte, hn, h0, h3, h4, h6, h7, hi1, k1, i2, i3, k2, k3, lx, lA, lC, hxt.self, hA.self, hC.self]
      refine (turned_any htu hlp s.next (spare t' 0) s.next v p (symC (l.getD a 0).toNat).1 (symC (l.getD a 0).toNat).2 (hr.keeps hsq) (by have := hst.next; omega) (by omega) (by omega)).mono ?_
      rintro _ t2 ⟨v', hr', to'⟩
      refine ⟨fun h => h.elim, ?_⟩
      have to'' := toq.trans to'
      obtain ⟨hA', pA'⟩ := pA.own hA to''
      obtain ⟨hC', pC'⟩ := pC.own hC to''
      simp (config := { maxSteps := 1000000, implicitDefEqProofs := false }) (disch := omega) only [wrapI]
      exact wround_next (l.length - (a + 1)) (by omega) ⟨a + 1, _, v', rfl, by omega, hr', by show (symP p (l.getD a 0).toNat).2 ≤ _; omega, hfx, hst.trans (to''.stay (Nat.le_refl _) hr.fresh hst.next), hA', hC', pA', pC', by simp only [n_put, hn], by simp only [get_put, ↓reduceIte, Nat.reduceEqDiff, h0], by simp only [get_put, ↓reduceIte, Nat.reduceEqDiff, h3], by simp only [get_put, ↓reduceIte, Nat.reduceEqDiff, h4], by simp only [get_put, ↓reduceIte, Nat.reduceEqDiff, h6], by simp only [get_put, ↓reduceIte]; rfl⟩
    · have hbf := best_far c3
      have d3 : ¬ (((best l a (far a)).1 : Nat) : Int) < 3 := by omega
      have eA : stepA l a = a + (best l a (far a)).1 := by unfold stepA; rw [if_neg c3]
      have eP : stepP l a p = againP p (best l a (far a)).1 (best l a (far a)).2 := by unfold stepP; rw [if_neg c3]
      rw [eA] at hsl hsg
      rw [eA, eP] at hfx hpl
      have hls2 := len_small hbf.1 hbf.2.1
      have hds := dst_same hbf.2.2.1 hbf.2.2.2.1
      have hsw := symC_snd (lenC (best l a (far a)).1).1
      obtain ⟨i2, i3, k2, k3⟩ := tab (lenC (best l a (far a)).1).1 (by omega)
      simp (config := { maxSteps := 1000000, implicitDefEqProofs := false }) (disch := omega) only [allW, allR, evalAll, Nat.reduceLT, Nat.reduceEqDiff, ↓reduceIte, hn, h8, eq_false d3]
      refine (lengthCode_any hlc t' (best l a (far a)).1 hbf.1 hbf.2.1).mono ?_
      rintro _ t1 ⟨rfl, rfl⟩
      simp (config := { maxSteps := 1000000, implicitDefEqProofs := false }) (disch := omega) only [allW, Nat.reduceLT, Nat.reduceEqDiff, ↓reduceIte, hn, ext0F, ext1F, ext2F]
      refine LB.Drawn.looseK B hBl 0 0 (by kernel_rfl) (by kernel_rfl) ?_
      simp (config := { maxSteps := 1000000, implicitDefEqProofs := false }) (disch := omega) only [allW, allR, allL, allB, Nat.reduceSub, evalAll, Nat.reduceLT, Nat.reduceEqDiff, ↓reduceIte, hn, h3, h4, h6, i2, i3, k2, k3, lA, lC, hA.self, hC.self]
      refine (turned_any htu hlp s.next (spare t1 0) s.next v p (symC (lenC (best l a (far a)).1).1).1 (symC (lenC (best l a (far a)).1).1).2 (hr.keeps hsq) (by have := hst.next; omega) (by omega) (by omega)).mono ?_
      rintro _ t2 ⟨v2', hr2', to2'⟩
      have hr2' : RowAt s.next t2 s.next v2' (symP p (lenC (best l a (far a)).1).1) := hr2'
      have to3 := toq.trans to2'
      refine ⟨fun h => h.elim, ?_⟩
      have nb := hst.next
      have n2' := to3.next
      try simp (config := { maxSteps := 1000000, implicitDefEqProofs := false }) (disch := omega) only [allW, allR, allL, allB, Nat.sub_self, Nat.add_one_sub_one, Nat.reduceSub, oneOf, evalAll, partsA, optA, Nat.reduceLT, Nat.reduceLeDiff, Nat.reduceEqDiff, Nat.reduceAdd, ↓reduceIte, allW, allR, oneOf, evalAll, partsA, optA, Nat.reduceLT, Nat.reduceLeDiff, Nat.reduceEqDiff, Nat.reduceAdd, ↓reduceIte, hn, h0, h3, h4, h6, h7, h8, h9]
      refine (rput_any hlp s.next t2 s.next v2' _ ((lenC (best l a (far a)).1).2.1 : Nat) ((lenC (best l a (far a)).1).2.2 : Nat) hr2' (by omega) (by rw [symP_snd]; omega)).mono ?_
      rintro _ t3 ⟨v3', hr3', to4⟩
      rw [puts_nat _ _ (by omega)] at hr3'
      have to4 := to3.trans to4
      have n3' := to4.next
      simp (config := { maxSteps := 1000000, implicitDefEqProofs := false }) (disch := omega) only [allW, allR, evalAll, Nat.reduceLT, Nat.reduceEqDiff, ↓reduceIte, hn, h9]
      refine (distanceCode_any hdc t3 (best l a (far a)).2 hbf.2.2.1 hbf.2.2.2.1).mono ?_
      rintro _ t4 ⟨rfl, rfl⟩
      simp (config := { maxSteps := 1000000, implicitDefEqProofs := false }) (disch := omega) only [allW, allR, evalAll, Nat.reduceLT, Nat.reduceEqDiff, ↓reduceIte, hn, h3, ext0F, ext1F, ext2F]
      refine (turned_any htu hlp s.next t4 s.next v3' _ (dstC (best l a (far a)).2).1 5 hr3' (by omega) (by rw [putE_snd, symP_snd]; omega) (by omega)).mono ?_
      rintro _ t5 ⟨v5, hr5, to5⟩
      have to5 := to4.trans to5
      have n5' := to5.next
      simp (config := { maxSteps := 1000000, implicitDefEqProofs := false }) (disch := omega) only [allW, allR, evalAll, Nat.reduceLT, Nat.reduceEqDiff, ↓reduceIte, hn, h3]
      refine (rput_any hlp s.next t5 s.next v5 _ ((dstC (best l a (far a)).2).2.1 : Nat) ((dstC (best l a (far a)).2).2.2 : Nat) hr5 (by omega) (by rw [codeP_snd, putE_snd, symP_snd]; omega)).mono ?_
      rintro _ t6 ⟨v6, hr6, to6⟩
      rw [puts_nat _ _ (by omega)] at hr6
      have hr6 : RowAt s.next t6 s.next v6 (againP p (best l a (far a)).1 (best l a (far a)).2) := hr6
      have to6 := to5.trans to6
      obtain ⟨hA', pA'⟩ := pA.own hA to6
      obtain ⟨hC', pC'⟩ := pC.own hC to6
      simp (config := { maxSteps := 1000000, implicitDefEqProofs := false }) (disch := omega) only [allW, Nat.reduceLT, Nat.reduceEqDiff, ↓reduceIte, hn, h7, h8, wrapI]
      exact wround_next (l.length - (a + (best l a (far a)).1)) (by omega) ⟨a + (best l a (far a)).1, _, v6, rfl, by omega, hr6, by omega, hfx, hst.trans (to6.stay (Nat.le_refl _) hr.fresh hst.next), hA', hC', pA', pC', by simp only [n_put, hn], by simp only [get_put, ↓reduceIte, Nat.reduceEqDiff, h0], by simp only [get_put, ↓reduceIte, Nat.reduceEqDiff, h3], by simp only [get_put, ↓reduceIte, Nat.reduceEqDiff, h4], by simp only [get_put, ↓reduceIte, Nat.reduceEqDiff, h6], by simp only [get_put, ↓reduceIte]; rfl⟩
  clear hn h0 f hA hB hA5 hC hr5 hs5
  rintro z f t ⟨rfl, p, v, hr, hp, hpe, hst, hA, hC, hn, h3, h4, h6⟩
  obtain ⟨B, hB⟩ : ∃ B : Nat → Bool, B = fun j => decide (j < t.next) := ⟨_, rfl⟩
  have hBl : ∀ j, B j = true → j < t.next := by
    intro j h
    rw [hB] at h
    exact of_decide_eq_true h
  have hBo : ∀ j, j < t.next → B j = true := fun j h => by rw [hB]; exact decide_eq_true h
  have lA := fun k => LA.lowV_elemOld hA.sees hBo (k := k)
  have lC := fun k => LA.lowV_elemOld hC.sees hBo (k := k)
  have hsq := Stay.spare t 0
  have hnq : (spare t 0).next = t.next + 0 := spare_next _ _
  have toq : RowTo s.next v t v (spare t 0) := ⟨by omega, fun i hi _ _ => hsq.get i hi, .inl rfl⟩
  have k1 := (hC.keeps hsq).sees.load1 (P := Try.prog) agIntF (k := 256) (by decide)
  have k2 := (hA.keeps hsq).sees.load1 (P := Try.prog) agIntF (k := 256) (by decide)
  rw [natsV_getD (by rw [fixK_length]; decide), fixK_at (by decide)] at k1
  rw [natsV_getD (by rw [fixL_length]; decide), fixL_at (by decide)] at k2
  have i1 := (hC.keeps hsq).sees.indexAddr (P := Try.prog) (k := .i64) (x := 256) uIntsF szInt (by omega) (by omega)
  have i2 := (hA.keeps hsq).sees.indexAddr (P := Try.prog) (k := .i64) (x := 256) uCodeF szInt (by omega) (by omega)
  have e256 : (256 : Int).toNat = 256 := rfl
  rw [e256] at i1 i2
  simp (config := { maxSteps := 1000000, implicitDefEqProofs := false }) (disch := omega) only [allW, ↓reduceIte]
  refine LB.Drawn.looseK B hBl 0 0 (by kernel_rfl) (by kernel_rfl) ?_
  simp (config := { maxSteps := 1000000, implicitDefEqProofs := false }) (disch := omega) only [allW, allR, allL, allB, Nat.reduceSub, evalAll, Nat.reduceLT, Nat.reduceEqDiff, ↓reduceIte, hn, h3, h4, h6, i1, i2, k1, k2, lA, lC, hA.self, hC.self]
  refine (turned_any htu hlp s.next (spare t 0) s.next v p (symC 256).1 (symC 256).2 (hr.keeps hsq) (by have := hst.next; omega) (by have : (symC 256).2 = 7 := rfl; omega) (by decide)).mono ?_
  rintro _ t2 ⟨v', hr', to'⟩
  have hr' : RowAt s.next t2 s.next v' (symP p 256) := hr'
  refine ⟨fun h => h.elim, ?_⟩
  have to'' := toq.trans to'
  have hst2 := hst.trans (to''.stay (Nat.le_refl _) hr.fresh hst.next)
  try simp (config := { maxSteps := 1000000, implicitDefEqProofs := false }) (disch := omega) only [allW, allR, allL, allB, Nat.sub_self, Nat.add_one_sub_one, Nat.reduceSub, oneOf, evalAll, partsA, optA, Nat.reduceLT, Nat.reduceLeDiff, Nat.reduceEqDiff, Nat.reduceAdd, ↓reduceIte, allW, allR, oneOf, evalAll, partsA, optA, Nat.reduceLT, Nat.reduceLeDiff, Nat.reduceEqDiff, Nat.reduceAdd, ↓reduceIte, hn, h3, h4, h6]
  have hfl := fixed_length l
  have e : fixed l = (symP p 256).1 := by unfold fixed; rw [fixP_eq, hpe]
  rw [e] at hfl
  refine (rbytes_any hly hlcp s.next t2 s.next v' _ hr' (by omega)).mono ?_
  rintro w t3 ⟨ho, hF, hst3⟩
  simp (config := { maxSteps := 1000000, implicitDefEqProofs := false }) (disch := omega) only [allW, wfn_ret, oneOf, Nat.reduceLT, ↓reduceIte, hn, Try.results27]
  exact ⟨by rw [e]; exact ho, fun i hi => Nat.le_trans hst2.next (hF i hi), hst2.trans (hst3.weaken hst2.next)⟩
end Go.Proofs.Ytnclklboogdoiaa
