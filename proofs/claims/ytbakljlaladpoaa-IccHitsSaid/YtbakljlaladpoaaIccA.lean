/-
  Profiles: small functions: spaces, numbers and texts at a place.
-/
import Derived.Test.YtbakljlaladpoaaCur2
import Derived.Test.YtbakljlaladpoaaCopy
import Derived.Test.YtbakljlaladpoaaStr
set_option linter.unusedSimpArgs false
set_option linter.unusedVariables false
namespace Go.Cl
theorem Turns.trans {v : Value} {s s' s'' : ASt} (h : Turns v s s') (k : Turns v s' s'') : Turns v s s'' :=
  ⟨Nat.le_trans h.next k.next, fun i hi hne => (k.get i (Nat.lt_of_lt_of_le hi h.next) hne).trans (h.get i hi hne)⟩
theorem Turns.after {v : Value} {s s' s'' : ASt} (h : Stay s.next s s') (k : Turns v s' s'') : Turns v s s'' :=
  ⟨Nat.le_trans h.next k.next, fun i hi hne => (k.get i (Nat.lt_of_lt_of_le hi h.next) hne).trans (h.get i hi)⟩
namespace Icc
def GRAY : List UInt8 := [71, 82, 65, 89]
def RGB : List UInt8 := [82, 71, 66, 32]
def LAB : List UInt8 := [76, 97, 98, 32]
def CMYK : List UInt8 := [67, 77, 89, 75]
def parts (a : List UInt8) : Nat := if a = GRAY then 1 else if a = RGB ∨ a = LAB then 3 else if a = CMYK then 4 else 0
/-- Four bytes at a place. -/
def four (l : List UInt8) (k : Nat) : List UInt8 := (l.drop k).take 4
def num (l : List UInt8) (k : Nat) : Nat := bigOf (four l k)
theorem four_length {l : List UInt8} {k : Nat} (h : k + 4 ≤ l.length) : (four l k).length = 4 := by unfold four; rw [List.length_take, List.length_drop]; omega
theorem takeFour {l : List UInt8} {k : Nat} (h : k + 4 ≤ l.length) : (if (0 : Int) ≤ 4 ∧ (4 : Int) ≤ (l.length - k : Nat) then (l.drop k).take (4 : Int).toNat else []) = four l k := by
  rw [if_pos (by omega)]; rfl
end Icc
end Go.Cl
namespace Go.Proofs.Ytbakljlaladpoaa
open Go.Cl Go.Cl.Icc
theorem szCp : sizeB Try.prog 55 = some 1 := by kernel_rfl
theorem agCp : isAggB Try.prog 55 = some false := by kernel_rfl
theorem rfld0 (i o c : Nat) : fieldAddrA Try.prog 58 (.pointer (some ⟨i, o, some c⟩)) 0 = some (.pointer (some ⟨i, o + 0, some c⟩)) := by
  unfold fieldAddrA; rw [Try.underlying58]; simp [szCp]
theorem parts_any {lib : Prims} (hl : lib.at 24 = none) (s : ASt) (a : List UInt8) :
    Runs Try.prog lib 24 [.string ⟨a.toArray⟩] s fun v s' => v = .int .i64 (parts a) ∧ s' = s := by
  refine Runs.enter 11 Try.func24 rfl hl rfl rfl ?_
  intro f hn hf
  have h0 : f.get 0 = .string ⟨a.toArray⟩ := hf 0
  clear hf
  have e1 := str_eql (P := Try.prog) (t := 9) a GRAY
  have e2 := str_eql (P := Try.prog) (t := 9) a RGB
  have e3 := str_eql (P := Try.prog) (t := 9) a LAB
  have e4 := str_eql (P := Try.prog) (t := 9) a CMYK
  simp only [GRAY, RGB, LAB, CMYK] at e1 e2 e3 e4
  unfold parts
  simp only [GRAY, RGB, LAB, CMYK]
  by_cases c1 : a = [71, 82, 65, 89]
  · simp (config := { maxSteps := 1000000, implicitDefEqProofs := false }) (disch := omega) only [allW, wfn_ret, wfn_normal, cond_true, cond_false, oneOf, evalAll, partsA, optA, List.drop_zero, List.drop_succ_cons, List.cons_append, List.nil_append, Nat.reduceLT, Nat.reduceLeDiff, Nat.reduceEqDiff, Nat.reduceAdd, List.getD_cons_zero, List.getD_cons_succ, List.set_cons_zero, List.set_cons_succ, ↓reduceIte, if_true, if_false, beq_self_eq_true, ne_eq, eq_self, not_true_eq_false, not_false_eq_true, hn, h0, e1, eq_true c1, Try.results24]
    rfl
  by_cases c2 : a = [82, 71, 66, 32]
  · simp (config := { maxSteps := 1000000, implicitDefEqProofs := false }) (disch := omega) only [allW, wfn_ret, wfn_normal, cond_true, cond_false, oneOf, evalAll, partsA, optA, List.drop_zero, List.drop_succ_cons, List.cons_append, List.nil_append, Nat.reduceLT, Nat.reduceLeDiff, Nat.reduceEqDiff, Nat.reduceAdd, List.getD_cons_zero, List.getD_cons_succ, List.set_cons_zero, List.set_cons_succ, ↓reduceIte, if_true, if_false, beq_self_eq_true, ne_eq, eq_self, not_true_eq_false, not_false_eq_true, hn, h0, e1, e2, eq_false c1, eq_true c2, true_or, Try.results24]
    rfl
  by_cases c3 : a = [76, 97, 98, 32]
  · simp (config := { maxSteps := 1000000, implicitDefEqProofs := false }) (disch := omega) only [allW, wfn_ret, wfn_normal, cond_true, cond_false, oneOf, evalAll, partsA, optA, List.drop_zero, List.drop_succ_cons, List.cons_append, List.nil_append, Nat.reduceLT, Nat.reduceLeDiff, Nat.reduceEqDiff, Nat.reduceAdd, List.getD_cons_zero, List.getD_cons_succ, List.set_cons_zero, List.set_cons_succ, ↓reduceIte, if_true, if_false, beq_self_eq_true, ne_eq, eq_self, not_true_eq_false, not_false_eq_true, hn, h0, e1, e2, e3, eq_false c1, eq_false c2, eq_true c3, or_true, Try.results24]
    rfl
  by_cases c4 : a = [67, 77, 89, 75]
  · simp (config := { maxSteps := 1000000, implicitDefEqProofs := false }) (disch := omega) only [allW, wfn_ret, wfn_normal, cond_true, cond_false, oneOf, evalAll, partsA, optA, List.drop_zero, List.drop_succ_cons, List.cons_append, List.nil_append, Nat.reduceLT, Nat.reduceLeDiff, Nat.reduceEqDiff, Nat.reduceAdd, List.getD_cons_zero, List.getD_cons_succ, List.set_cons_zero, List.set_cons_succ, ↓reduceIte, if_true, if_false, beq_self_eq_true, ne_eq, eq_self, not_true_eq_false, not_false_eq_true, hn, h0, e1, e2, e3, e4, eq_false c1, eq_false c2, eq_false c3, eq_true c4, or_false, Try.results24]
    rfl
  · simp (config := { maxSteps := 1000000, implicitDefEqProofs := false }) (disch := omega) only [allW, wfn_ret, wfn_normal, cond_true, cond_false, oneOf, evalAll, partsA, optA, List.drop_zero, List.drop_succ_cons, List.cons_append, List.nil_append, Nat.reduceLT, Nat.reduceLeDiff, Nat.reduceEqDiff, Nat.reduceAdd, List.getD_cons_zero, List.getD_cons_succ, List.set_cons_zero, List.set_cons_succ, ↓reduceIte, if_true, if_false, beq_self_eq_true, ne_eq, eq_self, not_true_eq_false, not_false_eq_true, hn, h0, e1, e2, e3, e4, eq_false c1, eq_false c2, eq_false c3, eq_false c4, or_false, Try.results24]
    rfl
theorem rparts_any {lib : Prims} (hl : lib.at 28 = none) (s : ASt) (a : List UInt8) :
    Runs Try.prog lib 28 [.string ⟨a.toArray⟩] s fun v s' => v = .int .i64 (parts a) ∧ s' = s := by
  refine Runs.enter 11 Try.func28 rfl hl rfl rfl ?_
  intro f hn hf
  have h0 : f.get 0 = .string ⟨a.toArray⟩ := hf 0
  clear hf
  have e1 := str_eql (P := Try.prog) (t := 9) a GRAY
  have e2 := str_eql (P := Try.prog) (t := 9) a RGB
  have e3 := str_eql (P := Try.prog) (t := 9) a LAB
  have e4 := str_eql (P := Try.prog) (t := 9) a CMYK
  simp only [GRAY, RGB, LAB, CMYK] at e1 e2 e3 e4
  unfold parts
  simp only [GRAY, RGB, LAB, CMYK]
  by_cases c1 : a = [71, 82, 65, 89]
  · simp (config := { maxSteps := 1000000, implicitDefEqProofs := false }) (disch := omega) only [allW, wfn_ret, wfn_normal, cond_true, cond_false, oneOf, evalAll, partsA, optA, List.drop_zero, List.drop_succ_cons, List.cons_append, List.nil_append, Nat.reduceLT, Nat.reduceLeDiff, Nat.reduceEqDiff, Nat.reduceAdd, List.getD_cons_zero, List.getD_cons_succ, List.set_cons_zero, List.set_cons_succ, ↓reduceIte, if_true, if_false, beq_self_eq_true, ne_eq, eq_self, not_true_eq_false, not_false_eq_true, hn, h0, e1, eq_true c1, Try.results28]
    rfl
  by_cases c2 : a = [82, 71, 66, 32]
  · simp (config := { maxSteps := 1000000, implicitDefEqProofs := false }) (disch := omega) only [allW, wfn_ret, wfn_normal, cond_true, cond_false, oneOf, evalAll, partsA, optA, List.drop_zero, List.drop_succ_cons, List.cons_append, List.nil_append, Nat.reduceLT, Nat.reduceLeDiff, Nat.reduceEqDiff, Nat.reduceAdd, List.getD_cons_zero, List.getD_cons_succ, List.set_cons_zero, List.set_cons_succ, ↓reduceIte, if_true, if_false, beq_self_eq_true, ne_eq, eq_self, not_true_eq_false, not_false_eq_true, hn, h0, e1, e2, eq_false c1, eq_true c2, true_or, Try.results28]
    rfl
  by_cases c3 : a = [76, 97, 98, 32]
  · simp (config := { maxSteps := 1000000, implicitDefEqProofs := false }) (disch := omega) only [allW, wfn_ret, wfn_normal, cond_true, cond_false, oneOf, evalAll, partsA, optA, List.drop_zero, List.drop_succ_cons, List.cons_append, List.nil_append, Nat.reduceLT, Nat.reduceLeDiff, Nat.reduceEqDiff, Nat.reduceAdd, List.getD_cons_zero, List.getD_cons_succ, List.set_cons_zero, List.set_cons_succ, ↓reduceIte, if_true, if_false, beq_self_eq_true, ne_eq, eq_self, not_true_eq_false, not_false_eq_true, hn, h0, e1, e2, e3, eq_false c1, eq_false c2, eq_true c3, or_true, Try.results28]
    rfl
  by_cases c4 : a = [67, 77, 89, 75]
  · simp (config := { maxSteps := 1000000, implicitDefEqProofs := false }) (disch := omega) only [allW, wfn_ret, wfn_normal, cond_true, cond_false, oneOf, evalAll, partsA, optA, List.drop_zero, List.drop_succ_cons, List.cons_append, List.nil_append, Nat.reduceLT, Nat.reduceLeDiff, Nat.reduceEqDiff, Nat.reduceAdd, List.getD_cons_zero, List.getD_cons_succ, List.set_cons_zero, List.set_cons_succ, ↓reduceIte, if_true, if_false, beq_self_eq_true, ne_eq, eq_self, not_true_eq_false, not_false_eq_true, hn, h0, e1, e2, e3, e4, eq_false c1, eq_false c2, eq_false c3, eq_true c4, or_false, Try.results28]
    rfl
  · simp (config := { maxSteps := 1000000, implicitDefEqProofs := false }) (disch := omega) only [allW, wfn_ret, wfn_normal, cond_true, cond_false, oneOf, evalAll, partsA, optA, List.drop_zero, List.drop_succ_cons, List.cons_append, List.nil_append, Nat.reduceLT, Nat.reduceLeDiff, Nat.reduceEqDiff, Nat.reduceAdd, List.getD_cons_zero, List.getD_cons_succ, List.set_cons_zero, List.set_cons_succ, ↓reduceIte, if_true, if_false, beq_self_eq_true, ne_eq, eq_self, not_true_eq_false, not_false_eq_true, hn, h0, e1, e2, e3, e4, eq_false c1, eq_false c2, eq_false c3, eq_false c4, or_false, Try.results28]
    rfl
theorem rnum_any {lib : Prims} (hl : lib.at 27 = none) (hln : lib.at 39 = none) (s : ASt) (x : Value) (l : List UInt8) (k : Nat) (hx : Sees s 1 x l.length (ofBytes l)) (hk : k + 4 ≤ l.length) (hlen : l.length ≤ 100000000) :
    Runs Try.prog lib 27 [x, .int .i64 (k : Nat)] s fun v s' => v = .int .i64 (num l k) ∧ s' = s := by
  refine Runs.enter 11 Try.func27 rfl hl rfl rfl ?_
  intro f hn hf
  have h0 : f.get 0 = x := hf 0
  have h1 : f.get 1 = .int .i64 (k : Nat) := hf 1
  clear hf
  have hcut := hx.cutB (lo := k) (hi := k + 4) (by omega) hk
  rw [show k + 4 - k = 4 by omega] at hcut
  have e4 : (k : Int) + 4 = ((k + 4 : Nat) : Int) := by omega
  simp (config := { maxSteps := 1000000, implicitDefEqProofs := false }) (disch := omega) only [allW, cond_true, cond_false, oneOf, evalAll, partsA, optA, List.drop_zero, List.drop_succ_cons, List.cons_append, List.nil_append, Nat.reduceLT, Nat.reduceLeDiff, Nat.reduceEqDiff, Nat.reduceAdd, List.getD_cons_zero, List.getD_cons_succ, List.set_cons_zero, List.set_cons_succ, ↓reduceIte, if_true, if_false, beq_self_eq_true, ne_eq, eq_self, not_true_eq_false, not_false_eq_true, hn, h0, h1, wrapI, e4, hx.self, hx.sliceBoth Try.underlying31 szU8]
  refine (number_any hln s _ (four l k) hcut (by rw [four_length hk]; omega)).mono ?_
  rintro _ s2 ⟨rfl, rfl⟩
  simp (config := { maxSteps := 1000000, implicitDefEqProofs := false }) (disch := omega) only [allW, wfn_ret, wfn_normal, cond_true, cond_false, oneOf, evalAll, partsA, optA, List.drop_zero, List.drop_succ_cons, List.cons_append, List.nil_append, Nat.reduceLT, Nat.reduceLeDiff, Nat.reduceEqDiff, Nat.reduceAdd, List.getD_cons_zero, List.getD_cons_succ, List.set_cons_zero, List.set_cons_succ, ↓reduceIte, if_true, if_false, beq_self_eq_true, ne_eq, eq_self, not_true_eq_false, not_false_eq_true, hn, Try.results27]
  rfl
end Go.Proofs.Ytbakljlaladpoaa
