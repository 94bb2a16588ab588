/-
  Inflate, the program: blocks.
-/
import Derived.Test.YtnclklboogdoiaaNfM
set_option linter.unusedSimpArgs false
set_option linter.unusedVariables false
set_option maxRecDepth 100000
namespace Go.Proofs.Ytnclklboogdoiaa
open Go.Cl Go.Cl.Rw Go.Cl.Sto Go.Cl.Fx Go.Cl.Nf Go.Cl.Bt
theorem OutP.from {base jr jx ic : Nat} {D : List UInt8} {M : Int} {o : Value} {s t t' : ASt} {v : Value} {B : Except Nat (Nat × List UInt8)} (h : OutP base jr jx ic D M o t v t' B) (k : RTo jr jx ic o s o t) (hs : Stay base s t) : OutP base jr jx ic D M o s v t' B := by
  cases B with
  | error e => exact ⟨h.1, h.2.1, hs.trans h.2.2⟩
  | ok y =>
    obtain ⟨h1, o', h2, h3⟩ := h
    exact ⟨h1, o', h2, k.trans h3⟩
/-- What comes of a block. -/
def BlkP (base jr jx ic : Nat) (D : List UInt8) (M : Int) (o : Value) (s : ASt) (v : Value) (s' : ASt) : Except Nat (Nat × Nat × List UInt8) → Prop
  | .ok (last, q, P') => v = .tuple #[.bool (decide (((last : Nat) : Int) = 1)), .int .i64 0] ∧ ∃ o', Rs base s' jr jx ic D q P' M o' ∧ RTo jr jx ic o s o' s'
  | .error e => 0 < e ∧ (∃ b, v = .tuple #[.bool b, .int .i64 (e : Nat)]) ∧ Stay base s s'
set_option maxHeartbeats 16000000 in
theorem blockP_any {lib : Prims} (hL : NoL lib) (base : Nat) (s : ASt) (jr jx ic : Nat) (D P : List UInt8) (p m N : Nat) (M : Int) (hM : m = M.toNat) (o : Value) (h : Rs base s jr jx ic D p P M o) (hb : base ≤ s.next) (hlen : D.length ≤ 1000000) (hPm : P.length ≤ m) (hm : m ≤ 100000000) (hN : 8 * D.length + 1 < N) :
    Runs Try.prog lib 31 [rptr jr] s fun v s' => BlkP base jr jx ic D M o s v s' (blockX N D m p P) := by
  have hlt := h.bit.lt
  have hjrl := h.t.lt
  have hol : ∀ i, idOf o = some i → i < s.next := fun i hi => h.own.idlt i hi
  have stayAll : ∀ o' t, RTo jr jx ic o s o' t → Stay base s t := fun o' t k => k.stay h.lr hlt.2.2.1 hlt.2.2.2.1 h.fresh hb
  refine Runs.enter 65 Try.func31 rfl (hL _ rfl) rfl rfl ?_
  intro f hn hf
  have h0 : f.get 0 = rptr jr := hf 0
  clear hf
  have r0 := h.t.load (P := Try.prog) agBitsQ (off := 0) (c := 4) rfl (by simp)
  have ne2 : ¬ (2 : Int) = 0 := by decide
  rw [blk_eq]
  simp (config := { maxSteps := 1000000, implicitDefEqProofs := false }) (disch := omega) only [allW, allR, evalAll, Nat.reduceLT, Nat.reduceEqDiff, ↓reduceIte, hn, h0, rfld0, r0]
  refine (number_any hL base s jx ic D p 1 h.bit hb (by omega) hlen).mono ?_
  intro v s1 hN1
  by_cases c1 : p + 1 ≤ 8 * D.length
  rotate_left
  · rw [takeE_no c1] at hN1
    rw [takeS_no c1, takeS_err, bindX_err]
    obtain ⟨-, rfl, hto⟩ := hN1
    simp (config := { maxSteps := 1000000, implicitDefEqProofs := false }) (disch := omega) only [allW, allR, wfn_ret, oneOf, Nat.reduceLT, Nat.reduceEqDiff, ↓reduceIte, hn, ext20, ext21, eq_false ne2, Try.results31]
    exact ⟨by decide, ⟨_, rfl⟩, stayAll _ _ (btoR hto)⟩
  rw [takeE_ok c1] at hN1
  rw [takeS_ok c1, takeV_ok c1]
  obtain ⟨rfl, hB1, to1⟩ := hN1
  have hR1 := h.bits hB1 to1
  have hb1 : base ≤ s1.next := by have := to1.next; omega
  have r0 := hR1.t.load (P := Try.prog) agBitsQ (off := 0) (c := 4) rfl (by simp)
  generalize bitsN D p 1 = last
  simp (config := { maxSteps := 1000000, implicitDefEqProofs := false }) (disch := omega) only [allW, allR, evalAll, Nat.reduceLT, Nat.reduceEqDiff, ↓reduceIte, hn, h0, ext20, ext21, rfld0, r0]
  refine (number_any hL base s1 jx ic D (p + 1) 2 hB1 hb1 (by omega) hlen).mono ?_
  intro v s2 hN2
  by_cases c2 : p + 1 + 2 ≤ 8 * D.length
  rotate_left
  · rw [takeE_no c2] at hN2
    rw [takeS_no c2, bindX_err]
    obtain ⟨-, rfl, hto⟩ := hN2
    simp (config := { maxSteps := 1000000, implicitDefEqProofs := false }) (disch := omega) only [allW, allR, wfn_ret, oneOf, Nat.reduceLT, Nat.reduceEqDiff, ↓reduceIte, hn, ext20, ext21, eq_false ne2, Try.results31]
    exact ⟨by decide, ⟨_, rfl⟩, stayAll _ _ (btoR (to1.trans hto))⟩
  rw [takeE_ok c2] at hN2
  rw [takeS_ok c2, takeV_ok c2, bindX_ok]
  obtain ⟨rfl, hB2, to2⟩ := hN2
  have to2 := to1.trans to2
  have hR2 := h.bits hB2 to2
  have hb2 : base ≤ s2.next := by have := to2.next; omega
  have k2 : RTo jr jx ic o s o s2 := btoR to2
  have st2 := stayAll _ _ k2
  have n2 := to2.next
  have hR2b : p + 1 + 2 ≤ 8 * D.length := hB2.le
  generalize bitsN D (p + 1) 2 = kind
  obtain ⟨B, hB⟩ : ∃ B, B = bodyX N D m kind (p + 1 + 2) P := ⟨_, rfl⟩
  rw [← hB]
  simp (config := { maxSteps := 1000000, implicitDefEqProofs := false }) (disch := omega) only [allW, allR, Nat.reduceLT, Nat.reduceEqDiff, ↓reduceIte, hn, ext20, ext21]
  refine wif_cutN (fun f' t' => f'.n = 65 ∧ f'.get 4 = .int .i64 (last : Nat) ∧ ∃ v, f'.get 5 = v ∧ OutP base jr jx ic D M o s v t' B) ?_ ?_
  rotate_left
  · clear hn h0 f
    rintro f t ⟨hn, h4, v, h5, hO⟩
    cases B with
    | error e =>
      obtain ⟨he, rfl, hst⟩ := hO
      simp (config := { maxSteps := 1000000, implicitDefEqProofs := false }) (disch := omega) only [allW, wfn_ret, oneOf, Nat.reduceLT, Nat.reduceEqDiff, ↓reduceIte, hn, h4, h5, Try.results31]
      rw [bindX_err]
      exact ⟨he, ⟨_, rfl⟩, hst⟩
    | ok y =>
      obtain ⟨q, P'⟩ := y
      obtain ⟨rfl, o', hR, hto⟩ := hO
      simp (config := { maxSteps := 1000000, implicitDefEqProofs := false }) (disch := omega) only [allW, wfn_ret, oneOf, Nat.reduceLT, Nat.reduceEqDiff, ↓reduceIte, hn, h4, h5, Try.results31]
      rw [bindX_ok]
      exact ⟨rfl, o', hR, hto⟩
  intro Q' hQ'
  by_cases ck0 : kind = 0
  · have d0 : ((kind : Nat) : Int) = 0 := by omega
    simp (config := { maxSteps := 1000000, implicitDefEqProofs := false }) (disch := omega) only [allW, allR, evalAll, Nat.reduceLT, Nat.reduceEqDiff, ↓reduceIte, hn, h0, eq_true d0]
    refine (storedP_any hL base s2 jr jx ic D P (p + 1 + 2) m M hM o hR2 hb2 hlen hPm hm).mono ?_
    intro v t hO
    simp (config := { maxSteps := 1000000, implicitDefEqProofs := false }) (disch := omega) only [allW, Nat.reduceLT, ↓reduceIte, hn]
    refine hQ' _ _ ⟨by simp only [n_put, hn], by simp only [get_put, ↓reduceIte, Nat.reduceEqDiff], v, by simp only [get_put, ↓reduceIte], ?_⟩
    rw [hB]
    unfold bodyX
    rw [if_pos ck0]
    exact hO.from k2 st2
  have d0 : ¬ ((kind : Nat) : Int) = 0 := by omega
  by_cases ck1 : kind = 1
  · have d1 : ((kind : Nat) : Int) = 1 := by omega
    simp (config := { maxSteps := 1000000, implicitDefEqProofs := false }) (disch := omega) only [allW, allR, evalAll, Nat.reduceLT, Nat.reduceEqDiff, ↓reduceIte, hn, eq_false d0, eq_true d1]
    refine (fixedP_any hL s2).mono ?_
    rintro _ t ⟨sa, sb, rfl, hsa, hsb, hsaF, hsbF, k3⟩
    have n3 := k3.next
    simp (config := { maxSteps := 1000000, implicitDefEqProofs := false }) (disch := omega) only [allW, Nat.reduceLT, Nat.reduceEqDiff, ↓reduceIte, hn, ext20, ext21, zCode, pCode]
    refine wstep_newPtr ?_
    intro t1 hc1 hst1 hnx1
    obtain ⟨ja, hja⟩ : ∃ j, j = t.next := ⟨_, rfl⟩
    rw [← hja] at hc1
    simp (config := { maxSteps := 1000000, implicitDefEqProofs := false }) (disch := omega) only [allW, Nat.reduceLT, Nat.reduceAdd, ↓reduceIte, hn, ← hja, codeV_length, zCode, pCode]
    refine wstep_newPtr ?_
    intro t2 hd2 hst2 hnx2
    obtain ⟨jb, hjb⟩ : ∃ j, j = t1.next := ⟨_, rfl⟩
    rw [← hjb] at hd2
    simp (config := { maxSteps := 1000000, implicitDefEqProofs := false }) (disch := omega) only [allW, Nat.reduceLT, Nat.reduceEqDiff, Nat.reduceAdd, ↓reduceIte, hn, ← hjb, codeV_length]
    refine wstep_storeAll szCode (by decide) (hc1.keeps hst2) (codeV_length _ _) rfl (codeV_length _ _) (codeV_ok _ hsa.sees.okCell) ?_
    intro t3 hc3 hn3 hs3
    have hc3 : Thing t3 ja (codeV fixedL sa) := hc3
    simp (config := { maxSteps := 1000000, implicitDefEqProofs := false }) (disch := omega) only [allW, Nat.reduceLT, Nat.reduceEqDiff, ↓reduceIte, hn]
    refine wstep_storeAll szCode (by decide) (hd2.ofPut hn3 hs3 (by omega)) (codeV_length _ _) rfl (codeV_length _ _) (codeV_ok _ hsb.sees.okCell) ?_
    intro t4 hd4 hn4 hs4
    have hd4 : Thing t4 jb (codeV fixedD sb) := hd4
    have hc4 := hc3.ofPut hn4 hs4 (by omega)
    have lca := hc4.loadAll (P := Try.prog) agCode (by rw [codeV_length]; exact szCode) (c := 18) (by rw [codeV_length])
    have lcb := hd4.loadAll (P := Try.prog) agCode (by rw [codeV_length]; exact szCode) (c := 18) (by rw [codeV_length])
    have kk : Stay s2.next s2 t4 := (((k3.trans (hst1.weaken n3)).trans (hst2.weaken (by omega))).trans (Stay.ofPut hn3 hs3 (by omega))).trans (Stay.ofPut hn4 hs4 (by omega))
    have hR4 := hR2.keeps hb2 kk
    have k4 := k2.kept kk
    have fin : ∀ (y : Value) (K : List Nat), Own t 1 y (flatA K 15).length (natsV (flatA K 15)) → Fresh s2.next y → CodP jr jx ic o t4 (.agg (codeV K y).toArray) K := fun y K h1 h2 => by
      have h3 := (((h1.keeps hst1).keeps hst2).ofPut hn3 hs3 (fun e => by have := h1.idlt _ e; omega)).ofPut hn4 hs4 (fun e => by have := h1.idlt _ e; omega)
      exact ⟨y, rfl, ⟨h3.sees, fun i hi => ⟨h3.idlt i hi, by have := h2 i hi; omega, by have := h2 i hi; omega⟩⟩, fun i hi => ⟨by have := h2 i hi; omega, fun e => by have := hol i e; have := h2 i hi; omega⟩⟩
    simp (config := { maxSteps := 1000000, implicitDefEqProofs := false }) (disch := omega) only [allW, allR, evalAll, Nat.reduceLT, Nat.reduceEqDiff, ↓reduceIte, hn, h0, lca, lcb]
    refine (codedP_any hL base t4 jr jx ic D P (p + 1 + 2) m N M hM o hR4 (by have := kk.next; omega) hlen hPm hm (by omega) _ _ fixedL fixedD (fin sa _ hsa hsaF) (fin sb _ hsb hsbF) (by rw [show fixedL.length = 288 from fixL_length]; decide) (by decide)).mono ?_
    intro v t5 hO
    simp (config := { maxSteps := 1000000, implicitDefEqProofs := false }) (disch := omega) only [allW, Nat.reduceLT, ↓reduceIte, hn]
    refine hQ' _ _ ⟨by simp only [n_put, hn], by simp only [get_put, ↓reduceIte, Nat.reduceEqDiff], v, by simp only [get_put, ↓reduceIte], ?_⟩
    rw [hB]
    unfold bodyX
    rw [if_neg ck0, if_pos ck1]
    exact hO.from k4 (stayAll _ _ k4)
  have d1 : ¬ ((kind : Nat) : Int) = 1 := by omega
  by_cases ck2 : kind = 2
  rotate_left
  · have d2 : ¬ ((kind : Nat) : Int) = 2 := by omega
    simp (config := { maxSteps := 1000000, implicitDefEqProofs := false }) (disch := omega) only [allW, Nat.reduceLT, Nat.reduceEqDiff, ↓reduceIte, hn, eq_false d0, eq_false d1, eq_false d2]
    refine hQ' _ _ ⟨by simp only [n_put, hn], by simp only [get_put, ↓reduceIte, Nat.reduceEqDiff], _, by simp only [get_put, ↓reduceIte]; rfl, ?_⟩
    rw [hB]
    unfold bodyX
    rw [if_neg ck0, if_neg ck1, if_neg ck2]
    exact ⟨by decide, rfl, st2⟩
  have d2 : ((kind : Nat) : Int) = 2 := by omega
  simp (config := { maxSteps := 1000000, implicitDefEqProofs := false }) (disch := omega) only [allW, Nat.reduceLT, Nat.reduceEqDiff, ↓reduceIte, hn, eq_false d0, eq_false d1, eq_true d2, zCode, pCode]
  refine wstep_newPtr ?_
  intro t1 hc1 hst1 hnx1
  obtain ⟨ja, hja⟩ : ∃ j, j = s2.next := ⟨_, rfl⟩
  rw [← hja] at hc1
  simp (config := { maxSteps := 1000000, implicitDefEqProofs := false }) (disch := omega) only [allW, Nat.reduceLT, Nat.reduceAdd, ↓reduceIte, hn, ← hja, codeV_length, zCode, pCode]
  refine wstep_newPtr ?_
  intro t2 hd2 hst2 hnx2
  obtain ⟨jb, hjb⟩ : ∃ j, j = t1.next := ⟨_, rfl⟩
  rw [← hjb] at hd2
  have kk : Stay s2.next s2 t2 := hst1.trans (hst2.weaken (by omega))
  have hRt := hR2.keeps hb2 kk
  have kt := k2.kept kk
  have hbt : base ≤ t2.next := by have := kk.next; omega
  have hc2 := hc1.keeps hst2
  simp (config := { maxSteps := 1000000, implicitDefEqProofs := false }) (disch := omega) only [allW, allR, evalAll, Nat.reduceLT, Nat.reduceEqDiff, Nat.reduceAdd, ↓reduceIte, hn, h0, ← hjb, codeV_length]
  refine (dynP_any hL base t2 jr jx ic D P (p + 1 + 2) N M o hRt hbt hlen hN).mono ?_
  intro v t3 hD
  cases hdx : dynX N D (p + 1 + 2) with
  | error e =>
    rw [hdx] at hD
    obtain ⟨he, rfl, to3⟩ := hD
    have c0 : ¬ (e : Int) = 0 := by omega
    simp (config := { maxSteps := 1000000, implicitDefEqProofs := false }) (disch := omega) only [allW, Nat.reduceLT, Nat.reduceEqDiff, ↓reduceIte, hn, ext30, ext31, ext32]
    refine wstep_storeAll szCode (by decide) (thingTo hc2 to3.next (to3.get ja hc2.lt (by omega) (by omega))) (codeV_length _ _) rfl (codeV_length _ _) (codeV_ok _ rfl) ?_
    intro t4 hc4 hn4 hs4
    simp (config := { maxSteps := 1000000, implicitDefEqProofs := false }) (disch := omega) only [allW, Nat.reduceLT, Nat.reduceEqDiff, ↓reduceIte, hn]
    refine wstep_storeAll szCode (by decide) ((thingTo hd2 to3.next (to3.get jb hd2.lt (by omega) (by omega))).ofPut hn4 hs4 (by omega)) (codeV_length _ _) rfl (codeV_length _ _) (codeV_ok _ rfl) ?_
    intro t5 hc5 hn5 hs5
    simp (config := { maxSteps := 1000000, implicitDefEqProofs := false }) (disch := omega) only [allW, Nat.reduceLT, ↓reduceIte, hn, eq_false c0]
    refine hQ' _ _ ⟨by simp only [n_put, hn], by simp only [get_put, ↓reduceIte, Nat.reduceEqDiff], _, by simp only [get_put, ↓reduceIte, Nat.reduceEqDiff]; rfl, ?_⟩
    rw [hB]
    unfold bodyX
    rw [if_neg ck0, if_neg ck1, if_pos ck2, hdx]
    have s3 := stayAll _ _ (kt.trans (btoR to3))
    exact ⟨he, rfl, (s3.trans (Stay.ofPut hn4 hs4 (by omega))).trans (Stay.ofPut hn5 hs5 (by omega))⟩
  | ok y =>
  obtain ⟨⟨a, b⟩, q⟩ := y
  rw [hdx] at hD
  obtain ⟨sa, sb, rfl, hR3, to3, hsa, hsb, hsaF, hsbF, hla, hlb⟩ := hD
  simp (config := { maxSteps := 1000000, implicitDefEqProofs := false }) (disch := omega) only [allW, Nat.reduceLT, Nat.reduceEqDiff, ↓reduceIte, hn, ext30, ext31, ext32]
  refine wstep_storeAll szCode (by decide) (thingTo hc2 to3.next (to3.get ja hc2.lt (by omega) (by omega))) (codeV_length _ _) rfl (codeV_length _ _) (codeV_ok _ hsa.sees.okCell) ?_
  intro t4 hc4 hn4 hs4
  have hc4 : Thing t4 ja (codeV a sa) := hc4
  simp (config := { maxSteps := 1000000, implicitDefEqProofs := false }) (disch := omega) only [allW, Nat.reduceLT, Nat.reduceEqDiff, ↓reduceIte, hn]
  refine wstep_storeAll szCode (by decide) ((thingTo hd2 to3.next (to3.get jb hd2.lt (by omega) (by omega))).ofPut hn4 hs4 (by omega)) (codeV_length _ _) rfl (codeV_length _ _) (codeV_ok _ hsb.sees.okCell) ?_
  intro t5 hd5 hn5 hs5
  have hd5 : Thing t5 jb (codeV b sb) := hd5
  have hc5 := hc4.ofPut hn5 hs5 (by omega)
  have lca := hc5.loadAll (P := Try.prog) agCode (by rw [codeV_length]; exact szCode) (c := 18) (by rw [codeV_length])
  have lcb := hd5.loadAll (P := Try.prog) agCode (by rw [codeV_length]; exact szCode) (c := 18) (by rw [codeV_length])
  have n3 := to3.next
  have hg5 : ∀ i, i < s2.next → t5.heap.get i = t3.heap.get i := fun i hi => by rw [hs5 i (by omega), hs4 i (by omega)]
  have hR5 : Rs base t5 jr jx ic D q P M o := hR3.low (B := s2.next) (by omega) hg5 hb2 (by omega) (by omega) (by omega) (fun i hi => by have := hol i hi; omega)
  have k5 : RTo jr jx ic o s o t5 := by
    have k3 := kt.trans (btoR (jr := jr) (o := o) to3)
    exact ⟨by have := k3.next; omega, fun i hi g1 g2 g3 g4 => by rw [hg5 i (by omega)]; exact k3.get i hi g1 g2 g3 g4, .inl rfl⟩
  have fin : ∀ (y : Value) (K : List Nat), Own t3 1 y (flatA K 15).length (natsV (flatA K 15)) → Fresh t2.next y → CodP jr jx ic o t5 (.agg (codeV K y).toArray) K := fun y K h1 h2 => by
    have h3 := (h1.ofPut hn4 hs4 (fun e => by have := h2 _ e; omega)).ofPut hn5 hs5 (fun e => by have := h2 _ e; omega)
    exact ⟨y, rfl, ⟨h3.sees, fun i hi => ⟨h3.idlt i hi, by have := h2 i hi; omega, by have := h2 i hi; omega⟩⟩, fun i hi => ⟨by have := h2 i hi; omega, fun e => by have := hol i e; have := h2 i hi; omega⟩⟩
  simp (config := { maxSteps := 1000000, implicitDefEqProofs := false }) (disch := omega) only [allW, allR, evalAll, Nat.reduceLT, Nat.reduceEqDiff, ↓reduceIte, hn, h0, lca, lcb]
  refine (codedP_any hL base t5 jr jx ic D P q m N M hM o hR5 (by omega) hlen hPm hm (by omega) _ _ a b (fin sa _ hsa hsaF) (fin sb _ hsb hsbF) hla (by omega)).mono ?_
  intro v t6 hO
  simp (config := { maxSteps := 1000000, implicitDefEqProofs := false }) (disch := omega) only [allW, Nat.reduceLT, ↓reduceIte, hn]
  refine hQ' _ _ ⟨by simp only [n_put, hn], by simp only [get_put, ↓reduceIte, Nat.reduceEqDiff], v, by simp only [get_put, ↓reduceIte], ?_⟩
  rw [hB]
  unfold bodyX
  rw [if_neg ck0, if_neg ck1, if_pos ck2, hdx]
  exact hO.from k5 (stayAll _ _ k5)
theorem bReader (jx : Nat) (M : Int) : buildA Try.prog 54 [(0, xptr jx), (1, .int .i64 M)] = some (.agg #[xptr jx, .int .i64 M, .slice none 0 0]) := by
  unfold buildA; rw [Try.underlying54]
  have hz : zeroB Try.prog 54 = some (.agg #[.pointer none, .int .i64 0, .slice none 0 0]) := by kernel_rfl
  rw [hz]
  have c1 : (xptr jx).cells.toList = [xptr jx] := rfl
  have c2 : (Value.int .i64 M).cells.toList = [.int .i64 M] := rfl
  simp only [fillA, placeOf, c1, c2]
  simp [szBitsQ, szInt, szSl, plainV, plain1, cells_agg, setAt]
set_option maxHeartbeats 16000000 in
theorem blocksP_any {lib : Prims} (hL : NoL lib) (s : ASt) (x : Value) (D : List UInt8) (N : Nat) (hx : Sees s 1 x D.length (ofBytes D)) (hlen : D.length ≤ 1000000) (M : Int) (hM : M ≤ 100000000) (hN : 8 * D.length + 1 < N) :
    Runs Try.prog lib 19 [x, .int .i64 M] s fun v s' => BlkX s v s' (inflX N D M.toNat) := by
  obtain ⟨m, hm⟩ : ∃ m, m = M.toNat := ⟨_, rfl⟩
  rw [← hm]
  refine Runs.enter 36 Try.func19 rfl (hL _ rfl) rfl rfl ?_
  intro f hn hf
  have h0 : f.get 0 = x := hf 0
  have h1 : f.get 1 = .int .i64 M := hf 1
  clear hf
  simp (config := { maxSteps := 1000000, implicitDefEqProofs := false }) (disch := omega) only [allW, allR, evalAll, Nat.reduceLT, Nat.reduceEqDiff, ↓reduceIte, hn, h0]
  refine (open_any (hL _ rfl) (hL _ rfl) s.next s x D hx.low (Nat.le_refl _)).mono ?_
  rintro _ s1 ⟨jx, ic, rfl, hB, k1⟩
  have hlt := hB.lt
  have n1 := k1.next
  simp (config := { maxSteps := 1000000, implicitDefEqProofs := false }) (disch := omega) only [allW, partsA, Nat.reduceLT, Nat.reduceEqDiff, ↓reduceIte, hn, h1, bReader]
  refine wstep_newPtr ?_
  intro s2 hr2 hst2 hnx2
  obtain ⟨jr, hjr⟩ : ∃ j, j = s1.next := ⟨_, rfl⟩
  rw [← hjr] at hr2
  have hR2 : Rs s.next s2 jr jx ic D 0 [] M (.slice none 0 0) := ⟨hB.keeps n1 hst2, hr2, .nil, Fresh.nil _, (fun e => by cases e), (fun e => by cases e), (fun e => by cases e), by omega, by omega, by omega⟩
  have k2 : Stay s.next s s2 := k1.trans (hst2.weaken n1)
  obtain ⟨R, hR⟩ : ∃ R, R = inflX N D m := ⟨_, rfl⟩
  rw [← hR]
  simp (config := { maxSteps := 1000000, implicitDefEqProofs := false }) (disch := omega) only [allW, Nat.reduceLT, Nat.reduceAdd, ↓reduceIte, hn, ← hjr, List.length_cons, List.length_nil]
  refine Comes.loopOut (fun z f t => ∃ (p : Nat) (P : List UInt8) (o : Value), blocksX N D m z p P = R ∧ 8 * D.length < p + z ∧ P.length ≤ m ∧ Rs s.next t jr jx ic D p P M o ∧ Stay s.next s t ∧ s.next ≤ t.next ∧ f.n = 36 ∧ f.get 7 = rptr jr)
    (fun z f t => z = .ret ∧ f.n = 36 ∧ ∃ a b c, f.get 4 = a ∧ f.get 5 = b ∧ f.get 6 = c ∧ BlkX s (.tuple #[a, b, c]) t R)
    (k := N) ⟨0, [], _, hR.symm, by omega, Nat.zero_le _, hR2, k2, k2.next, by simp only [n_put, hn], by simp only [get_put, ↓reduceIte]⟩ ?_ ?_
  rotate_left
  · clear hn h0 h1 f
    rintro z f t ⟨rfl, hn, a, b, c, h4, h5, h6, hO⟩
    simp (config := { maxSteps := 1000000, implicitDefEqProofs := false }) (disch := omega) only [allW, wfn_ret, oneOf, Nat.reduceLT, ↓reduceIte, hn, h4, h5, h6, Try.results19]
    exact hO
  clear hn h0 h1 f hR2 hB k1 hr2 hst2 hR
  rintro Q hQ z f t ⟨p, P, o, hz, hpz, hPm, hRs, hst, hnt, hn, h7⟩
  have hpD := hRs.bit.le
  obtain ⟨k, rfl⟩ : ∃ k, z = k + 1 := ⟨z - 1, by omega⟩
  rw [blocksX] at hz
  simp (config := { maxSteps := 1000000, implicitDefEqProofs := false }) (disch := omega) only [allW, allR, evalAll, Nat.reduceLT, ↓reduceIte, hn, h7]
  refine (blockP_any hL s.next t jr jx ic D P p m N M hm o hRs hnt hlen hPm (by omega) hN).mono ?_
  intro v t1 hBl
  cases hbx : blockX N D m p P with
  | error e =>
    rw [hbx] at hBl hz
    obtain ⟨he, ⟨b, rfl⟩, hst1⟩ := hBl
    have c0 : ¬ (e : Int) = 0 := by omega
    simp (config := { maxSteps := 1000000, implicitDefEqProofs := false }) (disch := omega) only [allW, allR, Nat.reduceLT, Nat.reduceEqDiff, ↓reduceIte, hn, ext20, ext21, eq_false c0]
    exact hQ _ _ _ ⟨rfl, by simp only [n_put, hn], _, _, _, by simp only [get_put, ↓reduceIte, Nat.reduceEqDiff]; rfl, by simp only [get_put, ↓reduceIte, Nat.reduceEqDiff]; rfl, by simp only [get_put, ↓reduceIte]; rfl, by rw [← hz]; exact ⟨rfl, hst.trans hst1⟩⟩
  | ok y =>
  obtain ⟨last, q, P'⟩ := y
  rw [hbx] at hBl hz
  obtain ⟨rfl, o', hR1, hto⟩ := hBl
  dsimp only at hz
  have hle := blockX_le hbx hPm
  have hge := blockX_ge hbx hPm
  have hst1 := hst.trans (hto.stay hRs.lr hRs.bit.lt.2.2.1 hRs.bit.lt.2.2.2.1 hRs.fresh hnt)
  have hn1 : s.next ≤ t1.next := hst1.next
  by_cases cl : last = 1
  rotate_left
  · have d1 : ¬ ((last : Nat) : Int) = 1 := by omega
    rw [if_neg cl] at hz
    simp (config := { maxSteps := 1000000, implicitDefEqProofs := false }) (disch := omega) only [allW, allR, Nat.reduceLT, Nat.reduceEqDiff, ↓reduceIte, hn, ext20, ext21, eq_false d1]
    exact wround_next k (by omega) ⟨q, P', o', hz, by omega, hle.2.1, hR1, hst1, hn1, by simp only [n_put, hn], by simp only [get_put, ↓reduceIte, Nat.reduceEqDiff, h7]⟩
  have d1 : ((last : Nat) : Int) = 1 := by omega
  rw [if_pos cl] at hz
  simp (config := { maxSteps := 1000000, implicitDefEqProofs := false }) (disch := omega) only [allW, allR, Nat.reduceLT, Nat.reduceEqDiff, ↓reduceIte, hn, ext20, ext21, eq_true d1]
  obtain ⟨A, hA⟩ : ∃ A : Nat → Bool, A = fun j => decide (j < t1.next) := ⟨_, rfl⟩
  have hAl : ∀ j, A j = true → j < t1.next := by
    intro j h
    rw [hA] at h
    exact of_decide_eq_true h
  have hAo : ∀ j, j < t1.next → A j = true := fun j h => by rw [hA]; exact decide_eq_true h
  have hsq := Stay.spare t1 0
  have hnq : (spare t1 0).next = t1.next + 0 := spare_next _ _
  have hRq := hR1.keeps hn1 hsq
  obtain ⟨pc, now, left, hBt, h7l⟩ := hRq.bit
  have he := hBt.e
  have lr : ∀ k, LA.lowV A (some (.pointer (some ⟨jr, k, some 4⟩))) = true := fun k => LA.lowV_ptr (A := A) (i := jr) (hAo _ hR1.t.lt)
  have lx : ∀ k, LA.lowV A (some (.pointer (some ⟨jx, k, some 4⟩))) = true := fun k => LA.lowV_ptr (A := A) (i := jx) (hAo _ hR1.bit.lt.1)
  have r0 := hRq.t.load (P := Try.prog) agBitsQ (off := 0) (c := 4) rfl (by simp)
  have r2 := hRq.t.load (P := Try.prog) agSl (off := 2) (c := 4) rfl (by simp)
  have g0 := hBt.t.load (P := Try.prog) bagCur (off := 0) (c := 4) rfl (by simp)
  refine LB.Drawn.looseK A hAl 1 0 (by kernel_rfl) (by kernel_rfl) ?_
  simp (config := { maxSteps := 1000000, implicitDefEqProofs := false }) (disch := omega) only [allW, allR, allL, allB, Nat.sub_self, evalAll, Nat.reduceLT, Nat.reduceEqDiff, ↓reduceIte, hn, h7, rfld0, rfld2, bfld0, r0, r2, g0, lr, lx, hR1.own.self]
  refine (pos_any (hL _ rfl) s.next (spare t1 0) ic D pc hBt.c).mono ?_
  rintro _ t2 ⟨rfl, ht2⟩
  rw [ht2]; clear ht2 t2
  refine ⟨fun _ => LA.StayA.refl _ _, ?_⟩
  try simp (config := { maxSteps := 1000000, implicitDefEqProofs := false }) (disch := omega) only [allW, ↓reduceIte, allW, ↓reduceIte]
  have ep : pc = (q + 7) / 8 := by omega
  exact hQ _ _ _ ⟨rfl, by simp only [n_put, hn], _, _, _, by simp only [get_put, ↓reduceIte, Nat.reduceEqDiff]; rfl, by simp only [get_put, ↓reduceIte, Nat.reduceEqDiff]; rfl, by simp only [get_put, ↓reduceIte]; rfl, by rw [← hz]; exact ⟨o', by rw [ep], hRq.own, hRq.fresh, hst1.trans (hsq.weaken hn1)⟩⟩
end Go.Proofs.Ytnclklboogdoiaa
