/-
  Rows of bits: the program's and the reference's.
-/
import Derived.Test.YtnclklboogdoiaaCopy
import Derived.Test.YtnclklboogdoiaaRowP
set_option linter.unusedSimpArgs false
set_option linter.unusedVariables false
set_option maxRecDepth 100000
namespace Go.Proofs.Ytnclklboogdoiaa
open Go.Cl Go.Cl.Rw
theorem wrapu64x {x : Int} (h0 : 0 ≤ x) (h : x < 18446744073709551616) : IntKind.u64.wrap x = x := by
  have e1 : IntKind.u64.bits = 64 := rfl
  have e2 : IntKind.u64.signed = false := rfl
  simp only [IntKind.wrap, e1, e2, Bool.false_and]
  simp
  omega
theorem set_bytes (l : List UInt8) (k : Nat) (c : UInt8) : (ofBytes l).set k (.int .u8 (c.toNat : Int)) = ofBytes (l.set k c) := by
  simp [ofBytes, List.map_set]
abbrev qptr (j : Nat) : Value := .pointer (some ⟨j, 0, some 3⟩)
theorem qfld0 (i o c : Nat) : fieldAddrA Try.prog 79 (.pointer (some ⟨i, o, some c⟩)) 0 = some (.pointer (some ⟨i, o + 0, some c⟩)) := by
  unfold fieldAddrA; rw [Try.underlying79]; simp [szSl]
theorem qfld1 (i o c : Nat) : fieldAddrA Try.prog 79 (.pointer (some ⟨i, o, some c⟩)) 1 = some (.pointer (some ⟨i, o + 1, some c⟩)) := by
  unfold fieldAddrA; rw [Try.underlying79]; simp [szSl, szInt]
def Does (base : Nat) (j : Nat) (v : Value) (s : ASt) (p : List UInt8 × Nat) (s' : ASt) : Prop := ∃ v', RowAt base s' j v' p ∧ RowTo j v s v' s'
theorem Does.start {base j : Nat} {v : Value} {s : ASt} {p : List UInt8 × Nat} (h : RowAt base s j v p) : Does base j v s p s := ⟨v, h, RowTo.refl _ _ _⟩
def puts (p : List UInt8 × Nat) (x w : Int) : List UInt8 × Nat := if w < 1 ∨ 16 < w then p else rput p x w.toNat
set_option maxRecDepth 100000 in
set_option maxHeartbeats 4000000 in
theorem rput_any {lib : Prims} (hl : lib.at 45 = none) (base : Nat) (s : ASt) (j : Nat) (v : Value) (p : List UInt8 × Nat) (x w : Int) (h : RowAt base s j v p) (hb : base ≤ s.next) (hp : p.2 ≤ 1000000000) :
    Runs Try.prog lib 45 [qptr j, .int .i64 x, .int .i64 w] s fun _ s' => Does base j v s (puts p x w) s' := by
  refine Runs.enter 75 Try.func45 rfl hl rfl rfl ?_
  intro f hn hf
  have h0 : f.get 0 = qptr j := hf 0
  have h1 : f.get 1 = .int .i64 x := hf 1
  have h2 : f.get 2 = .int .i64 w := hf 2
  clear hf
  by_cases c1 : w < 1
  · simp (config := { maxSteps := 1000000, implicitDefEqProofs := false }) (disch := omega) only [allW, allR, wfn_ret, wfn_normal, oneOf, evalAll, partsA, optA, Nat.reduceLT, Nat.reduceLeDiff, Nat.reduceEqDiff, Nat.reduceAdd, ↓reduceIte, hn, h0, h1, h2, eq_true c1, Try.results45]
    unfold puts; rw [if_pos (.inl c1)]; exact Does.start h
  · by_cases c2 : 16 < w
    · simp (config := { maxSteps := 1000000, implicitDefEqProofs := false }) (disch := omega) only [allW, allR, wfn_ret, wfn_normal, oneOf, evalAll, partsA, optA, Nat.reduceLT, Nat.reduceLeDiff, Nat.reduceEqDiff, Nat.reduceAdd, ↓reduceIte, hn, h0, h1, h2, eq_false c1, eq_true c2, Try.results45]
      unfold puts; rw [if_pos (.inr c2)]; exact Does.start h
    · obtain ⟨m, rfl⟩ : ∃ m : Nat, w = m := ⟨w.toNat, by omega⟩
      have hputs : puts p x m = rput p x m := by unfold puts; rw [if_neg (by omega), Int.toNat_natCast]
      simp (config := { maxSteps := 1000000, implicitDefEqProofs := false }) (disch := omega) only [allW, allR, oneOf, evalAll, partsA, optA, Nat.reduceLT, Nat.reduceLeDiff, Nat.reduceEqDiff, Nat.reduceAdd, ↓reduceIte, hn, h0, h1, h2, eq_false c1, eq_false c2]
      refine Comes.loopAt (fun q f s' => ∃ (k : Nat), q = m - k ∧ k ≤ m ∧ Does base j v s (rput p x k) s' ∧ f.n = 75 ∧ f.get 0 = qptr j ∧ f.get 1 = .int .i64 x ∧ f.get 2 = .int .i64 m ∧ f.get 6 = .int .i64 k)
        ⟨0, rfl, by omega, Does.start h, by simp only [get_put, n_put, ↓reduceIte, Nat.reduceEqDiff, hn], by simp only [get_put, n_put, ↓reduceIte, Nat.reduceEqDiff, h0], by simp only [get_put, n_put, ↓reduceIte, Nat.reduceEqDiff, h1], by simp only [get_put, n_put, ↓reduceIte, Nat.reduceEqDiff, h2], by simp only [get_put, n_put, ↓reduceIte, Nat.reduceEqDiff]; rfl⟩ ?_
      clear hn h0 h1 h2 f
      rintro q f s1 ⟨k, rfl, hk, ⟨v1, hr1, hto⟩, hn, h0, h1, h2, h6⟩
      by_cases hkm : k < m
      · have hkm' : (k : Int) < m := by omega
        have hb1 := Nat.le_trans hb hto.next
        have hp1 : (rput p x k).2 ≤ 1073741824 := by rw [rput_snd]; omega
        have hrec : rput p x (k + 1) = rbit (rput p x k) (x.fdiv (2 ^ k)) := rfl
        obtain ⟨pk, hpk⟩ : ∃ pk, pk = rput p x k := ⟨_, rfl⟩
        rw [← hpk] at hr1 hp1 hrec
        obtain ⟨B, n⟩ := pk
        obtain ⟨ho, hB, hF, hne, hj, hok⟩ := hr1
        obtain ⟨hrl, hrb⟩ := room_len hok
        have hok' := rbit_ok (x := x.fdiv (2 ^ k)) hok
        simp only at ho hB hp1
        obtain ⟨hk1, hk2⟩ := hok
        simp only at hk1 hk2
        have l0 := ho.load (P := Try.prog) agSl (off := 0) (c := 3) rfl (by simp)
        have l1 := ho.load (P := Try.prog) agInt (off := 1) (c := 3) rfl (by simp)
        have hn8 : n % 8 < 8 := Nat.mod_lt _ (by omega)
        by_cases hz : n % 8 = 0
        · have hz' : ((n % 8 : Nat) : Int) = 0 := by omega
          have hroom : room (B, n) = B ++ [0] := by unfold room; rw [if_pos hz]
          simp (config := { maxSteps := 1000000, implicitDefEqProofs := false }) (disch := omega) only [allW, allR, oneOf, evalAll, partsA, optA, Nat.reduceLT, Nat.reduceLeDiff, Nat.reduceEqDiff, Nat.reduceAdd, ↓reduceIte, hn, h0, h1, h2, h6, eq_true hkm', qfld0, qfld1, l0, l1, bin_rem, rem8, eq_true hz', hB.self, build1 Try.underlying22 szU8 zU8]
          refine wstep_append_lit Try.underlying22 szU8 byU8 zU8 rfl hB (by simp only [get_put, n_put, ↓reduceIte, Nat.reduceEqDiff]) (by decide) (by simp only [get_put, n_put, ↓reduceIte, Nat.reduceEqDiff, hn]; decide) (by simp only [get_put, n_put, ↓reduceIte, Nat.reduceEqDiff, hn]; decide) (by rfl) (by decide) rfl (by omega) (by omega) (base := base) hF hb1 ?_
          intro bs B' s2 hB' hF' hst' ht' hid'
          have ho2 := ho.turns ht' hne
          have hne' : idOf B' ≠ some j := by
            rcases hid' with e | ⟨i, e, hi⟩
            · rw [e]; exact hne
            · rw [e]; intro q; injection q with q; have := ho.lt; omega
          simp (config := { maxSteps := 1000000, implicitDefEqProofs := false }) (disch := omega) only [allW, allR, oneOf, evalAll, partsA, optA, Nat.reduceLT, Nat.reduceLeDiff, Nat.reduceEqDiff, Nat.reduceAdd, ↓reduceIte, hn, h0, h1, h2, h6, qfld0]
          refine wstep_store szSl ho2 rfl (by simp) hB'.sees.okCell ?_
          intro s3 ho3 hn3 hst3
          have e1 : ofBytes B ++ [.int .u8 0] = ofBytes (B ++ [0]) := by rw [ofBytes_append]; rfl
          have e2 : B.length + 1 = (B ++ [0]).length := by simp
          have hB3 := hB'.ofPut hn3 hst3 hne'
          rw [e1, e2] at hB3
          have hlt : n / 8 < (B ++ [0]).length := by rw [← hroom]; exact hrl
          simp (config := { maxSteps := 1000000, implicitDefEqProofs := false }) (disch := omega) only [allW, allR, oneOf, evalAll, partsA, optA, Nat.reduceLT, Nat.reduceLeDiff, Nat.reduceEqDiff, Nat.reduceAdd, ↓reduceIte, hn, h0, h1, h2, h6]
          refine Drawn.tight' (by kernel_rfl) ?_
          have l0 := (ho3).load (P := Try.prog) agSl (off := 0) (c := 3) rfl (by simp)
          have l1 := (ho3).load (P := Try.prog) agInt (off := 1) (c := 3) rfl (by simp)
          have k1 := (hB3).sees.load1 (P := Try.prog) agU8 hlt
          rw [ofBytes_getD hlt] at k1
          simp (config := { maxSteps := 1000000, implicitDefEqProofs := false }) (disch := omega) only [allW, allR, oneOf, evalAll, partsA, optA, Nat.reduceLT, Nat.reduceLeDiff, Nat.reduceEqDiff, Nat.reduceAdd, ↓reduceIte, hn, h0, h1, h2, h6, qfld0, qfld1, l0, l1, (hB3).self, bin_rem, rem8, bin_quo, quo8, wrapI, (hB3).sees.indexAddr Try.underlying22 szU8, k1, bin_and, and1, conv_int Try.underlying3 Try.underlying5, conv1, shlB, bin_or, orB, conv_int Try.underlying3 Try.underlying29, wrapu64x, shrN]
          refine vstep_storeElem szU8 hB3 hlt rfl ?_
          intro t1 hb1 ht1
          have ho1 := (ho3).turns ht1 hne'
          have l1' := ho1.load (P := Try.prog) agInt (off := 1) (c := 3) rfl (by simp)
          simp (config := { maxSteps := 1000000, implicitDefEqProofs := false }) (disch := omega) only [allW, allR, oneOf, evalAll, partsA, optA, Nat.reduceLT, Nat.reduceLeDiff, Nat.reduceEqDiff, Nat.reduceAdd, ↓reduceIte, hn, h0, h1, h2, h6, qfld1, l1', wrapI]
          refine wstep_store szInt ho1 rfl (by simp) rfl ?_
          intro t2 ho2 hn2 hs2
          have hb2 := hb1.ofPut hn2 hs2 hne'
          simp (config := { maxSteps := 1000000, implicitDefEqProofs := false }) (disch := omega) only [allW, allR, oneOf, evalAll, partsA, optA, Nat.reduceLT, Nat.reduceLeDiff, Nat.reduceEqDiff, Nat.reduceAdd, ↓reduceIte, hn, h0, h1, h2, h6, wrapI]
          rw [set_bytes] at hb2
          have hr : (rbit (B, n) (x.fdiv (2 ^ k))).1 = (B ++ [0]).set (n / 8) (setb ((B ++ [0]).getD (n / 8) 0) (x.fdiv (2 ^ k)) (n % 8)) := by simp only [rbit, hroom]
          refine wround_next (m - (k + 1)) (by omega) ⟨k + 1, rfl, by omega, ?_, by simp only [get_put, n_put, ↓reduceIte, Nat.reduceEqDiff, hn], by simp only [get_put, n_put, ↓reduceIte, Nat.reduceEqDiff, h0], by simp only [get_put, n_put, ↓reduceIte, Nat.reduceEqDiff, h1], by simp only [get_put, n_put, ↓reduceIte, Nat.reduceEqDiff, h2], by simp only [get_put, n_put, ↓reduceIte, Nat.reduceEqDiff]; rfl⟩
          rw [hrec]
          refine ⟨B', ⟨ho2, ?_, hF', hne', hj, hok'⟩, hto.trans (((RowTo.turns ht' hid').trans (RowTo.put hn3 hst3)).trans ((RowTo.turns ht1 (.inl rfl)).trans (RowTo.put hn2 hs2)))⟩
          rw [hr, List.length_set]; exact hb2
        · have hz' : ¬ ((n % 8 : Nat) : Int) = 0 := by omega
          have hroom : room (B, n) = B := by unfold room; rw [if_neg hz]
          have hlt : n / 8 < B.length := by rw [← hroom]; exact hrl
          simp (config := { maxSteps := 1000000, implicitDefEqProofs := false }) (disch := omega) only [allW, allR, oneOf, evalAll, partsA, optA, Nat.reduceLT, Nat.reduceLeDiff, Nat.reduceEqDiff, Nat.reduceAdd, ↓reduceIte, hn, h0, h1, h2, h6, eq_true hkm', qfld0, qfld1, l0, l1, bin_rem, rem8, eq_false hz']
          refine Drawn.tight' (by kernel_rfl) ?_
          have l0 := (ho).load (P := Try.prog) agSl (off := 0) (c := 3) rfl (by simp)
          have l1 := (ho).load (P := Try.prog) agInt (off := 1) (c := 3) rfl (by simp)
          have k1 := (hB).sees.load1 (P := Try.prog) agU8 hlt
          rw [ofBytes_getD hlt] at k1
          simp (config := { maxSteps := 1000000, implicitDefEqProofs := false }) (disch := omega) only [allW, allR, oneOf, evalAll, partsA, optA, Nat.reduceLT, Nat.reduceLeDiff, Nat.reduceEqDiff, Nat.reduceAdd, ↓reduceIte, hn, h0, h1, h2, h6, qfld0, qfld1, l0, l1, (hB).self, bin_rem, rem8, bin_quo, quo8, wrapI, (hB).sees.indexAddr Try.underlying22 szU8, k1, bin_and, and1, conv_int Try.underlying3 Try.underlying5, conv1, shlB, bin_or, orB, conv_int Try.underlying3 Try.underlying29, wrapu64x, shrN]
          refine vstep_storeElem szU8 hB hlt rfl ?_
          intro t1 hb1 ht1
          have ho1 := (ho).turns ht1 hne
          have l1' := ho1.load (P := Try.prog) agInt (off := 1) (c := 3) rfl (by simp)
          simp (config := { maxSteps := 1000000, implicitDefEqProofs := false }) (disch := omega) only [allW, allR, oneOf, evalAll, partsA, optA, Nat.reduceLT, Nat.reduceLeDiff, Nat.reduceEqDiff, Nat.reduceAdd, ↓reduceIte, hn, h0, h1, h2, h6, qfld1, l1', wrapI]
          refine wstep_store szInt ho1 rfl (by simp) rfl ?_
          intro t2 ho2 hn2 hs2
          have hb2 := hb1.ofPut hn2 hs2 hne
          simp (config := { maxSteps := 1000000, implicitDefEqProofs := false }) (disch := omega) only [allW, allR, oneOf, evalAll, partsA, optA, Nat.reduceLT, Nat.reduceLeDiff, Nat.reduceEqDiff, Nat.reduceAdd, ↓reduceIte, hn, h0, h1, h2, h6, wrapI]
          rw [set_bytes] at hb2
          have hr : (rbit (B, n) (x.fdiv (2 ^ k))).1 = B.set (n / 8) (setb (B.getD (n / 8) 0) (x.fdiv (2 ^ k)) (n % 8)) := by simp only [rbit, hroom]
          refine wround_next (m - (k + 1)) (by omega) ⟨k + 1, rfl, by omega, ?_, by simp only [get_put, n_put, ↓reduceIte, Nat.reduceEqDiff, hn], by simp only [get_put, n_put, ↓reduceIte, Nat.reduceEqDiff, h0], by simp only [get_put, n_put, ↓reduceIte, Nat.reduceEqDiff, h1], by simp only [get_put, n_put, ↓reduceIte, Nat.reduceEqDiff, h2], by simp only [get_put, n_put, ↓reduceIte, Nat.reduceEqDiff]; rfl⟩
          rw [hrec]
          refine ⟨v1, ⟨ho2, ?_, hF, hne, hj, hok'⟩, hto.trans ((RowTo.turns ht1 (.inl rfl)).trans (RowTo.put hn2 hs2))⟩
          rw [hr, List.length_set]; exact hb2
      · obtain rfl : k = m := by omega
        have hkm' : ¬ (k : Int) < k := by omega
        simp (config := { maxSteps := 1000000, implicitDefEqProofs := false }) (disch := omega) only [allW, allR, wfn_ret, wfn_normal, oneOf, evalAll, partsA, optA, Nat.reduceLT, Nat.reduceLeDiff, Nat.reduceEqDiff, Nat.reduceAdd, ↓reduceIte, hn, h0, h1, h2, h6, eq_false hkm', Try.results45]
        rw [hputs]; exact ⟨v1, hr1, hto⟩
theorem rbytes_any {lib : Prims} (hl : lib.at 51 = none) (hlc : lib.at 22 = none) (base : Nat) (s : ASt) (j : Nat) (v : Value) (p : List UInt8 × Nat) (h : RowAt base s j v p) (hp : p.1.length ≤ 1000000000) :
    Runs Try.prog lib 51 [qptr j] s fun w s' => NewBytes s w s' p.1 := by
  refine Runs.enter 8 Try.func51 rfl hl rfl rfl ?_
  intro f hn hf
  have h0 : f.get 0 = qptr j := hf 0
  clear hf
  have l0 := h.thing.load (P := Try.prog) agSl (off := 0) (c := 3) rfl (by simp)
  simp (config := { maxSteps := 1000000, implicitDefEqProofs := false }) (disch := omega) only [allW, allR, oneOf, evalAll, partsA, optA, Nat.reduceLT, Nat.reduceLeDiff, Nat.reduceEqDiff, Nat.reduceAdd, ↓reduceIte, hn, h0, qfld0, l0]
  refine (copy_any hlc s v p.1 h.own.sees (by omega)).mono ?_
  intro w s2 hw
  simp (config := { maxSteps := 1000000, implicitDefEqProofs := false }) (disch := omega) only [allW, allR, wfn_ret, wfn_normal, oneOf, evalAll, partsA, optA, Nat.reduceLT, Nat.reduceLeDiff, Nat.reduceEqDiff, Nat.reduceAdd, ↓reduceIte, hn, Try.results51]
  exact hw
end Go.Proofs.Ytnclklboogdoiaa
