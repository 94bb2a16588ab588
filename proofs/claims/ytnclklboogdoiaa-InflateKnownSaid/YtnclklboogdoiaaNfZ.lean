/-
  Inflate, wrapped: the program's, the reference's.
-/
import Derived.Test.YtnclklboogdoiaaNfN
import Derived.Test.YtnclklboogdoiaaCur2
import Derived.Test.YtnclklboogdoiaaZlb
set_option linter.unusedSimpArgs false
set_option linter.unusedVariables false
set_option maxRecDepth 100000
namespace Go.Cl.Nf
open Go.Cl.Fx Go.Cl.Sto
theorem takeE_pos {D : List UInt8} {p n e : Nat} (h : takeE D p n = .error e) : 0 < e := by
  unfold takeE at h
  split at h <;> cases h
  decide
theorem sym_pos {D : List UInt8} {C : List Nat} {p e : Nat} (h : sym D C p = .error e) : 0 < e := by
  rcases symF_err h with h | h <;> omega
theorem rep_pos {M b : Nat} : ∀ {n : Nat} {P : List UInt8} {e : Nat}, rep M b n P = .error e → 0 < e
  | 0, P, e, h => by cases h
  | n + 1, P, e, h => by
    unfold rep at h
    split at h
    · cases h; decide
    · exact rep_pos h
theorem stoF_pos {D : List UInt8} {M : Nat} : ∀ {k a : Nat} {P : List UInt8} {e : Nat}, stoF D M k a P = .error e → 0 < e
  | 0, a, P, e, h => by cases h
  | k + 1, a, P, e, h => by
    unfold stoF at h
    repeat' split at h
    all_goals first | (cases h <;> decide) | exact stoF_pos h
theorem storedX_pos {D : List UInt8} {M p : Nat} {P : List UInt8} {e : Nat} (h : storedX D M p P = .error e) : 0 < e := by
  unfold storedX at h
  repeat' split at h
  all_goals first | (cases h <;> first | decide | exact takeE_pos ‹_› | exact sym_pos ‹_› ) | exact stoF_pos h
theorem copyX_pos {D : List UInt8} {M : Nat} {B : List Nat} {s p : Nat} {P : List UInt8} {e : Nat} (h : copyX D M B s p P = .error e) : 0 < e := by
  unfold copyX at h
  repeat' split at h
  all_goals first | (cases h <;> first | decide | exact takeE_pos ‹_› | exact sym_pos ‹_› | exact rep_pos ‹_›) 
theorem codedX_pos {D : List UInt8} {M : Nat} {A B : List Nat} : ∀ {k p : Nat} {P : List UInt8} {e : Nat}, codedX D M A B k p P = .error e → 0 < e
  | 0, p, P, e, h => by cases h; decide
  | k + 1, p, P, e, h => by
    unfold codedX at h
    repeat' split at h
    all_goals first | (cases h <;> first | decide | exact sym_pos ‹_› | exact copyX_pos ‹_›) | exact codedX_pos h
theorem headX_pos {D : List UInt8} {p e : Nat} (h : headX D p = .error e) : 0 < e := by
  unfold headX at h
  repeat' split at h
  all_goals first | (cases h <;> first | decide | exact takeE_pos ‹_› | exact sym_pos ‹_› ) 
theorem ownX_pos {D : List UInt8} : ∀ {r : List Nat} {p : Nat} {o : List Nat} {e : Nat}, ownX D r p o = .error e → 0 < e
  | [], p, o, e, h => by cases h
  | i :: r, p, o, e, h => by
    unfold ownX at h
    split at h
    · cases h; exact takeE_pos ‹_›
    · exact ownX_pos h
theorem againX_pos {D : List UInt8} {s p : Nat} {l : List Nat} {e : Nat} (h : againX D s p l = .error e) : 0 < e := by
  unfold againX at h
  repeat' split at h
  all_goals first | (cases h <;> first | decide | exact takeE_pos ‹_› | exact sym_pos ‹_› ) 
theorem lensX_pos {D : List UInt8} {C : List Nat} {many : Nat} : ∀ {k p : Nat} {l : List Nat} {e : Nat}, lensX D C many k p l = .error e → 0 < e
  | 0, p, l, e, h => by cases h; decide
  | k + 1, p, l, e, h => by
    unfold lensX at h
    repeat' split at h
    all_goals first | (cases h <;> first | decide | exact sym_pos ‹_› | exact againX_pos ‹_›) | exact lensX_pos h
theorem dynX_pos {N : Nat} {D : List UInt8} {p e : Nat} (h : dynX N D p = .error e) : 0 < e := by
  unfold dynX at h
  repeat' split at h
  all_goals first | (cases h <;> first | decide | exact takeE_pos ‹_› | exact sym_pos ‹_› | exact headX_pos ‹_› | exact ownX_pos ‹_› | exact lensX_pos ‹_›) 
theorem bodyX_pos {N : Nat} {D : List UInt8} {M kind p : Nat} {P : List UInt8} {e : Nat} (h : bodyX N D M kind p P = .error e) : 0 < e := by
  unfold bodyX at h
  repeat' split at h
  all_goals first | (cases h <;> first | decide | exact takeE_pos ‹_› | exact sym_pos ‹_› | exact dynX_pos ‹_›) | exact storedX_pos h | exact codedX_pos h
theorem blockX_pos {N : Nat} {D : List UInt8} {M p : Nat} {P : List UInt8} {e : Nat} (h : blockX N D M p P = .error e) : 0 < e := by
  unfold blockX at h
  repeat' split at h
  all_goals first | (cases h <;> first | decide | exact takeE_pos ‹_› | exact sym_pos ‹_› | exact bodyX_pos ‹_›) 
theorem blocksX_pos {N : Nat} {D : List UInt8} {M : Nat} : ∀ {k p : Nat} {P : List UInt8} {e : Nat}, blocksX N D M k p P = .error e → 0 < e
  | 0, p, P, e, h => by cases h; decide
  | k + 1, p, P, e, h => by
    unfold blocksX at h
    repeat' split at h
    all_goals first | (cases h <;> first | decide | exact blockX_pos ‹_›) | exact blocksX_pos h
theorem inflX_pos {N : Nat} {D : List UInt8} {M e : Nat} (h : inflX N D M = .error e) : 0 < e := blocksX_pos h
def hdBad (a b : Nat) : Prop := a % 16 ≠ 8 ∨ 7 < a / 16 ∨ (a * 256 + b) % 31 ≠ 0 ∨ b / 32 % 2 ≠ 0
instance (a b : Nat) : Decidable (hdBad a b) := by unfold hdBad; infer_instance
def zlibX (N : Nat) (D : List UInt8) (M : Nat) : Except Nat (Nat × List UInt8) :=
  if D.length < 2 then .error 2
  else if hdBad (D.getD 0 0).toNat (D.getD 1 0).toNat then .error 4
  else match inflX N (D.drop 2) M with
    | .error e => .error e
    | .ok (q, P) => if D.length < 2 + (q + 7) / 8 + 4 then .error 2 else if bigOf ((D.drop (2 + (q + 7) / 8)).take 4) = adl P then .ok (2 + (q + 7) / 8 + 4, P) else .error 10
def ZlbX (s : ASt) (v : Value) (s' : ASt) : Except Nat (Nat × List UInt8) → Prop
  | .ok (n, P) => ∃ o, v = .tuple #[o, .int .i64 (n : Nat), .int .i64 0] ∧ Own s' 1 o P.length (ofBytes P) ∧ Fresh s.next o ∧ Stay s.next s s'
  | .error e => v = .tuple #[.slice none 0 0, .int .i64 0, .int .i64 (e : Nat)] ∧ Stay s.next s s'
theorem andN {k : IntKind} {n m : Nat} (hn : n < 2 ^ k.bits) (hm : m < 2 ^ k.bits) : (BitVec.ofInt k.bits (n : Int) &&& BitVec.ofInt k.bits (m : Int)).toNat = n &&& m := by
  rw [BitVec.toNat_and, BitVec.ofInt_natCast, BitVec.ofInt_natCast, BitVec.toNat_ofNat, BitVec.toNat_ofNat, Nat.mod_eq_of_lt hn, Nat.mod_eq_of_lt hm]
theorem and15 (n : Nat) : n &&& 15 = n % 16 := Nat.and_two_pow_sub_one_eq_mod n 4
theorem and32 (n : Nat) : n &&& 32 = n / 32 % 2 * 32 := by
  have hb : n.testBit 5 = decide (n / 2 ^ 5 % 2 = 1) := Nat.testBit_eq_decide_div_mod_eq
  rw [show (2 : Nat) ^ 5 = 32 from rfl] at hb
  apply Nat.eq_of_testBit_eq
  intro i
  rw [Nat.testBit_and, show (32 : Nat) = 2 ^ 5 from rfl, Nat.testBit_two_pow, show (2 : Nat) ^ 5 = 32 from rfl]
  rcases Nat.mod_two_eq_zero_or_one (n / 32) with h | h <;> rw [h] at hb ⊢
  · rw [Nat.zero_mul, Nat.zero_testBit]
    by_cases c : 5 = i
    · subst c; rw [hb]; rfl
    · rw [decide_eq_false c, Bool.and_false]
  · rw [Nat.one_mul, show (32 : Nat) = 2 ^ 5 from rfl, Nat.testBit_two_pow]
    by_cases c : 5 = i
    · subst c; rw [hb]; rfl
    · rw [decide_eq_false c, Bool.and_false]
theorem and15I {n : Nat} (h : n < 65536) : IntKind.i64.wrap (((BitVec.ofInt IntKind.i64.bits (n : Int) &&& BitVec.ofInt IntKind.i64.bits 15).toNat : Nat) : Int) = ((n % 16 : Nat) : Int) := by
  rw [show (15 : Int) = ((15 : Nat) : Int) from rfl, andN (Nat.lt_of_lt_of_le h (by decide)) (by decide), and15, wrapI (by omega)]
theorem and32I {n : Nat} (h : n < 65536) : IntKind.i64.wrap (((BitVec.ofInt IntKind.i64.bits (n : Int) &&& BitVec.ofInt IntKind.i64.bits 32).toNat : Nat) : Int) = ((n / 32 % 2 * 32 : Nat) : Int) := by
  rw [show (32 : Int) = ((32 : Nat) : Int) from rfl, andN (Nat.lt_of_lt_of_le h (by decide)) (by decide), and32, wrapI (by omega)]
end Go.Cl.Nf
namespace Go.Proofs.Ytnclklboogdoiaa
open Go.Cl Go.Cl.Rw Go.Cl.Sto Go.Cl.Fx Go.Cl.Nf Go.Cl.Bt
theorem mod31 (n : Nat) : ((n : Int)).tmod 31 = ((n % 31 : Nat) : Int) := by rw [Int.tmod_eq_emod_of_nonneg (by omega)]; omega
theorem big_two {D : List UInt8} (h : 2 ≤ D.length) : bigOf (takeIs D 0 2) = (D.getD 0 0).toNat * 256 + (D.getD 1 0).toNat := by
  match D, h with
  | a :: b :: r, _ =>
    have : takeIs (a :: b :: r) 0 2 = [a, b] := by
      unfold takeIs
      rw [if_pos (by simp only [List.length_cons]; omega)]
      rfl
    rw [this]
    simp [bigOf]
theorem hcutF {s : ASt} {x : Value} {D : List UInt8} (hx : Sees s 1 x D.length (ofBytes D)) (h : 2 ≤ D.length) : Sees s 1 (cutS 1 x 2 D.length) (D.drop 2).length (ofBytes (D.drop 2)) := by
  have k := hx.cutB (lo := 2) (hi := D.length) h (Nat.le_refl _)
  rw [List.take_of_length_le (by rw [List.length_drop]; exact Nat.le_refl _)] at k
  exact k
theorem noLx : NoL [] := fun _ _ => rfl
set_option maxRecDepth 100000 in
set_option maxHeartbeats 16000000 in
theorem zlibX_any (s : ASt) (x : Value) (D : List UInt8) (N : Nat) (hx : Sees s 1 x D.length (ofBytes D)) (hDl : D.length ≤ 1000000) (M : Int) (hM : M ≤ 100000000) (hN : 8 * D.length + 1 < N) :
    Runs Try.prog [] 23 [x, .int .i64 M] s fun v s' => ZlbX s v s' (zlibX N D M.toNat) := by
  refine Runs.enter 78 Try.func23 rfl rfl rfl rfl ?_
  intro f hn hf
  have h0 : f.get 0 = x := hf 0
  have h1 : f.get 1 = .int .i64 M := hf 1
  clear hf
  simp (config := { maxSteps := 1000000, implicitDefEqProofs := false }) (disch := omega) only [allW, allR, oneOf, evalAll, partsA, optA, Nat.reduceLT, Nat.reduceLeDiff, Nat.reduceEqDiff, Nat.reduceAdd, ↓reduceIte, hn, h0, h1]
  refine (new_any rfl s.next s x D hx.low (Nat.le_refl _)).mono ?_
  rintro _ s1 ⟨rfl, hc1, k1, n1⟩
  obtain ⟨ic, hic⟩ : ∃ i, i = s.next := ⟨_, rfl⟩
  have hc1 : CurIs s.next s1 ic D 0 := by rw [hic]; exact hc1
  rw [← hic]
  have hfc : Fresh s.next (cptr ic) := fresh_cptr (by omega)
  simp (config := { maxSteps := 1000000, implicitDefEqProofs := false }) (disch := omega) only [allW, allR, oneOf, evalAll, partsA, optA, Nat.reduceLT, Nat.reduceLeDiff, Nat.reduceEqDiff, Nat.reduceAdd, ↓reduceIte, hn, h0, h1]
  refine (word_any rfl rfl rfl rfl rfl rfl s.next s1 ic D 0 2 hc1 (by omega) (by omega)).mono ?_
  rintro v s2 ⟨hv, hc2, to2⟩
  have k2 : Stay s.next s s2 := k1.trans (to2.keeps hfc (by omega))
  have hx2 := hx.keeps k2
  obtain ⟨R, hR⟩ : ∃ R, R = zlibX N D M.toNat := ⟨_, rfl⟩
  rw [← hR]
  unfold zlibX at hR
  by_cases c1 : D.length < 2
  · rw [if_pos c1] at hR
    rw [decide_eq_false (by omega)] at hv
    subst hv
    simp (config := { maxSteps := 1000000, implicitDefEqProofs := false }) (disch := omega) only [allW, allR, wfn_ret, wfn_normal, oneOf, evalAll, partsA, optA, Nat.reduceLT, Nat.reduceLeDiff, Nat.reduceEqDiff, Nat.reduceAdd, ↓reduceIte, undef, hn, h0, h1, ext20, ext21, Bool.not_false, Try.results23]
    rw [hR]
    exact ⟨rfl, k2⟩
  rw [if_neg c1] at hR
  rw [if_pos (by decide), big_two (by omega), decide_eq_true (by omega)] at hv
  generalize (if (1 : Int) ≤ 2 ∧ (2 : Int) ≤ 7 ∧ (2 : Int) ≤ ((D.length - 0 : Nat) : Int) then 0 + (2 : Int).toNat else 0) = p2 at hc2
  have a8 := (D.getD 0 0).toNat_lt
  have b8 := (D.getD 1 0).toNat_lt
  generalize (D.getD 0 0).toNat = a at hv a8 hR
  generalize (D.getD 1 0).toNat = b at hv b8 hR
  subst hv
  obtain ⟨w, hw⟩ : ∃ w, w = a * 256 + b := ⟨_, rfl⟩
  rw [← hw]
  have s8 : binA Try.prog .shr 3 (.int .i64 (w : Nat)) (.int .u64 8) = some (.int .i64 (a : Nat)) := by
    have k := shrI Try.prog 3 .u64 w (k := 8) (by decide)
    rw [show w / 2 ^ 8 = a by omega] at k
    exact k
  have s12 : binA Try.prog .shr 3 (.int .i64 (w : Nat)) (.int .u64 12) = some (.int .i64 ((a / 16 : Nat) : Int)) := by
    have k := shrI Try.prog 3 .u64 w (k := 12) (by decide)
    rw [show w / 2 ^ 12 = a / 16 by omega] at k
    exact k
  have n15 := and15I (n := a) (by omega)
  have n32 := and32I (n := w) (by omega)
  rw [show w / 32 % 2 = b / 32 % 2 by omega] at n32
  by_cases b1 : a % 16 = 8
  rotate_left
  · have g1 : ¬ ((a % 16 : Nat) : Int) = 8 := by omega
    rw [if_pos (.inl b1)] at hR
    simp (config := { maxSteps := 1000000, implicitDefEqProofs := false }) (disch := omega) only [allW, allR, wfn_ret, wfn_normal, oneOf, evalAll, partsA, optA, Nat.reduceLT, Nat.reduceLeDiff, Nat.reduceEqDiff, Nat.reduceAdd, ↓reduceIte, undef, hn, h0, h1, ext20, ext21, Bool.not_true, s8, bin_and, n15, eq_false g1, not_false_eq_true, decide_true, decide_false, Try.results23]
    rw [hR]
    exact ⟨rfl, k2⟩
  have g1 : ((a % 16 : Nat) : Int) = 8 := by omega
  by_cases b2 : 7 < a / 16
  · have g2 : ((a / 16 : Nat) : Int) > 7 := by omega
    rw [if_pos (.inr (.inl b2))] at hR
    simp (config := { maxSteps := 1000000, implicitDefEqProofs := false }) (disch := omega) only [allW, allR, wfn_ret, wfn_normal, oneOf, evalAll, partsA, optA, Nat.reduceLT, Nat.reduceLeDiff, Nat.reduceEqDiff, Nat.reduceAdd, ↓reduceIte, undef, hn, h0, h1, ext20, ext21, Bool.not_true, s8, s12, bin_and, n15, g1, eq_true g2, not_true_eq_false, decide_true, decide_false, Try.results23]
    rw [hR]
    exact ⟨rfl, k2⟩
  have g2 : ¬ ((a / 16 : Nat) : Int) > 7 := by omega
  by_cases b3 : w % 31 = 0
  rotate_left
  · have g3 : ¬ ((w % 31 : Nat) : Int) = 0 := by omega
    rw [if_pos (.inr (.inr (.inl (by rw [← hw]; exact b3))))] at hR
    simp (config := { maxSteps := 1000000, implicitDefEqProofs := false }) (disch := omega) only [allW, allR, wfn_ret, wfn_normal, oneOf, evalAll, partsA, optA, Nat.reduceLT, Nat.reduceLeDiff, Nat.reduceEqDiff, Nat.reduceAdd, ↓reduceIte, undef, hn, h0, h1, ext20, ext21, Bool.not_true, s8, s12, bin_and, n15, g1, eq_false g2, bin_rem, mod31, eq_false g3, not_true_eq_false, not_false_eq_true, decide_true, decide_false, Try.results23]
    rw [hR]
    exact ⟨rfl, k2⟩
  have g3 : ((w % 31 : Nat) : Int) = 0 := by omega
  by_cases b4 : b / 32 % 2 = 0
  rotate_left
  · have g4 : ¬ ((b / 32 % 2 * 32 : Nat) : Int) = 0 := by omega
    rw [if_pos (.inr (.inr (.inr b4)))] at hR
    simp (config := { maxSteps := 1000000, implicitDefEqProofs := false }) (disch := omega) only [allW, allR, wfn_ret, wfn_normal, oneOf, evalAll, partsA, optA, Nat.reduceLT, Nat.reduceLeDiff, Nat.reduceEqDiff, Nat.reduceAdd, ↓reduceIte, undef, hn, h0, h1, ext20, ext21, Bool.not_true, s8, s12, bin_and, n15, n32, g1, eq_false g2, bin_rem, mod31, g3, eq_false g4, not_true_eq_false, not_false_eq_true, decide_true, decide_false, Try.results23]
    rw [hR]
    exact ⟨rfl, k2⟩
  have g4 : ((b / 32 % 2 * 32 : Nat) : Int) = 0 := by omega
  rw [if_neg (by unfold hdBad; omega)] at hR
  simp (config := { maxSteps := 1000000, implicitDefEqProofs := false }) (disch := omega) only [allW, allR, oneOf, evalAll, partsA, optA, Nat.reduceLT, Nat.reduceLeDiff, Nat.reduceEqDiff, Nat.reduceAdd, ↓reduceIte, undef, hn, h0, h1, ext20, ext21, Bool.not_true, s8, s12, bin_and, n15, n32, g1, eq_false g2, bin_rem, mod31, g3, g4, not_true_eq_false, decide_false, hx2.self, hx2.sliceLow Try.underlying22 szU8]
  have hcut := hcutF hx2 (by omega)
  refine (cclone_any rfl s2 _ (D.drop 2) hcut (by rw [List.length_drop]; omega)).mono ?_
  rintro y s3 ⟨hy, hyF, k3⟩
  have k3' : Stay s.next s s3 := k2.trans (k3.weaken k2.next)
  simp (config := { maxSteps := 1000000, implicitDefEqProofs := false }) (disch := omega) only [allW, allR, oneOf, evalAll, partsA, optA, Nat.reduceLT, Nat.reduceLeDiff, Nat.reduceEqDiff, Nat.reduceAdd, ↓reduceIte, undef, hn, h0, h1]
  refine (blocksP_any noLx s3 y (D.drop 2) N hy.sees (by rw [List.length_drop]; omega) M hM (by rw [List.length_drop]; omega)).mono ?_
  intro v s4 hB
  cases hi : inflX N (D.drop 2) M.toNat with
  | error e =>
    rw [hi] at hB hR
    obtain ⟨rfl, k4⟩ := hB
    have he := inflX_pos hi
    have g5 : ¬ ((e : Nat) : Int) = 0 := by omega
    simp (config := { maxSteps := 1000000, implicitDefEqProofs := false }) (disch := omega) only [allW, allR, wfn_ret, wfn_normal, oneOf, evalAll, partsA, optA, Nat.reduceLT, Nat.reduceLeDiff, Nat.reduceEqDiff, Nat.reduceAdd, ↓reduceIte, undef, hn, h0, h1, ext0F, ext1F, ext2F, eq_false g5, not_false_eq_true, decide_true, Try.results23]
    rw [hR]
    exact ⟨rfl, k3'.trans (k4.weaken k3'.next)⟩
  | ok r =>
  obtain ⟨q, P⟩ := r
  rw [hi] at hB
  obtain ⟨o, rfl, ho, hoF, k4⟩ := hB
  have k4' : Stay s.next s s4 := k3'.trans (k4.weaken k3'.next)
  have hc4 : CurIs s.next s4 ic D p2 := (hc2.keeps k2.next k3).keeps k3'.next k4
  have hle := inflX_le hi
  rw [List.length_drop] at hle
  obtain ⟨n, hnq⟩ : ∃ n, n = (q + 7) / 8 := ⟨_, rfl⟩
  rw [hi] at hR
  dsimp only at hR
  rw [← hnq] at hR ⊢
  have n4 := k4'.next
  have e2 : (2 : Int) + (n : Nat) = ((2 + n : Nat) : Int) := by omega
  have hne : idOf o ≠ some ic := fun e => by have := hoF _ e; have := hc2.choose_spec.1.lt; have := k3.next; omega
  simp (config := { maxSteps := 1000000, implicitDefEqProofs := false }) (disch := omega) only [allW, allR, oneOf, evalAll, partsA, optA, Nat.reduceLT, Nat.reduceLeDiff, Nat.reduceEqDiff, Nat.reduceAdd, ↓reduceIte, undef, hn, h0, h1, ext0F, ext1F, ext2F, not_true_eq_false, decide_false, wrapI, e2]
  refine (seek_any rfl s.next s4 ic D p2 _ hc4 n4).mono ?_
  rintro _ s5 ⟨rfl, hc5, to5⟩
  rw [if_pos (by omega), Int.toNat_natCast] at hc5
  have ho5 := ho.turns to5 (fun i hi e => hne (hi.trans e.symm))
  have k5 : Stay s.next s s5 := k4'.trans (to5.keeps hfc n4)
  simp (config := { maxSteps := 1000000, implicitDefEqProofs := false }) (disch := omega) only [allW, allR, oneOf, evalAll, partsA, optA, Nat.reduceLT, Nat.reduceLeDiff, Nat.reduceEqDiff, Nat.reduceAdd, ↓reduceIte, undef, hn, h0, h1]
  refine (word_any rfl rfl rfl rfl rfl rfl s.next s5 ic D (2 + n) 4 hc5 k5.next (by omega)).mono ?_
  rintro v s6 ⟨hv, hc6, to6⟩
  have ho6 := ho5.turns to6 (fun i hi e => hne (hi.trans e.symm))
  have k6 : Stay s.next s s6 := k5.trans (to6.keeps hfc k5.next)
  by_cases c2 : D.length < 2 + n + 4
  · rw [if_pos c2] at hR
    rw [decide_eq_false (by omega)] at hv
    subst hv
    simp (config := { maxSteps := 1000000, implicitDefEqProofs := false }) (disch := omega) only [allW, allR, wfn_ret, wfn_normal, oneOf, evalAll, partsA, optA, Nat.reduceLT, Nat.reduceLeDiff, Nat.reduceEqDiff, Nat.reduceAdd, ↓reduceIte, undef, hn, h0, h1, ext20, ext21, Bool.not_false, Try.results23]
    rw [hR]
    exact ⟨rfl, k6⟩
  rw [if_neg c2] at hR
  have htk : takeIs D (2 + n) 4 = (D.drop (2 + n)).take 4 := by
    unfold takeIs
    rw [if_pos (by omega)]
    rfl
  rw [if_pos (by decide), htk, decide_eq_true (by omega)] at hv
  rw [if_pos (by omega), show (4 : Int).toNat = 4 from rfl] at hc6
  have hb4 : ((D.drop (2 + n)).take 4).length ≤ 4 := by rw [List.length_take]; omega
  have hbl := bigOf_lt ((D.drop (2 + n)).take 4) _ rfl
  have hbl : bigOf ((D.drop (2 + n)).take 4) < 4294967296 := Nat.lt_of_lt_of_le hbl (Nat.le_trans (Nat.pow_le_pow_right (by decide) hb4) (by decide : 256 ^ 4 ≤ 4294967296))
  generalize bigOf ((D.drop (2 + n)).take 4) = g at hbl hv hR
  subst hv
  have hal := adl_lt P
  obtain ⟨xa, xn, xc, hxe⟩ := Sees.sliceF ho6.sees
  simp (config := { maxSteps := 1000000, implicitDefEqProofs := false }) (disch := omega) only [allW, allR, oneOf, evalAll, partsA, optA, Nat.reduceLT, Nat.reduceLeDiff, Nat.reduceEqDiff, Nat.reduceAdd, ↓reduceIte, undef, hn, h0, h1, ext20, ext21, Bool.not_true, conv_int Try.underlying3 Try.underlying72, wrapu32x, hxe, buildS1]
  refine wstep_newSlice rfl ?_
  intro yy s7 hyy hyyF k7
  rw [← hxe] at hyy
  have ho7 := ho6.keeps k7
  simp (config := { maxSteps := 1000000, implicitDefEqProofs := false }) (disch := omega) only [allW, allR, oneOf, evalAll, partsA, optA, Nat.reduceLT, Nat.reduceLeDiff, Nat.reduceEqDiff, Nat.reduceAdd, ↓reduceIte, undef, hn, h0, h1, ← hxe]
  refine (adler_any rfl rfl s7 yy o P hyy.sees ho7.sees (by have := hle.2; omega)).mono ?_
  rintro _ s8 ⟨rfl, rfl⟩
  have k8 : Stay s.next s s8 := k6.trans (k7.weaken k6.next)
  have hc8 := hc6.keeps k6.next k7
  by_cases c3 : g = adl P
  rotate_left
  · have g6 : ¬ ((g : Nat) : Int) = ((adl P : Nat) : Int) := by omega
    rw [if_neg c3] at hR
    simp (config := { maxSteps := 1000000, implicitDefEqProofs := false }) (disch := omega) only [allW, allR, wfn_ret, wfn_normal, oneOf, evalAll, partsA, optA, Nat.reduceLT, Nat.reduceLeDiff, Nat.reduceEqDiff, Nat.reduceAdd, ↓reduceIte, undef, hn, h0, h1, eq_false g6, not_false_eq_true, decide_true, Try.results23]
    rw [hR]
    exact ⟨rfl, k8⟩
  have g6 : ((g : Nat) : Int) = ((adl P : Nat) : Int) := by omega
  rw [if_pos c3] at hR
  simp (config := { maxSteps := 1000000, implicitDefEqProofs := false }) (disch := omega) only [allW, allR, oneOf, evalAll, partsA, optA, Nat.reduceLT, Nat.reduceLeDiff, Nat.reduceEqDiff, Nat.reduceAdd, ↓reduceIte, undef, hn, h0, h1, g6, not_true_eq_false, decide_false]
  refine (pos_any rfl s.next s8 ic D (2 + n + 4) hc8).mono ?_
  rintro _ s9 ⟨rfl, rfl⟩
  simp (config := { maxSteps := 1000000, implicitDefEqProofs := false }) (disch := omega) only [allW, allR, wfn_ret, wfn_normal, oneOf, evalAll, partsA, optA, Nat.reduceLT, Nat.reduceLeDiff, Nat.reduceEqDiff, Nat.reduceAdd, ↓reduceIte, undef, hn, h0, h1, Try.results23]
  rw [hR]
  exact ⟨o, rfl, ho7, fun i hi => by have := hoF i hi; have := k3'.next; omega, k8⟩
end Go.Proofs.Ytnclklboogdoiaa
