/-
  Fonts in tables, the program: numbers, noughts, whether one is among a row.
-/
import Derived.Test.YtpdkppimlcbhlaaSfK
import Derived.Test.YtpdkppimlcbhlaaSfM
import Derived.Test.YtpdkppimlcbhlaaJoin
import Derived.Test.YtpdkppimlcbhlaaCopyW
set_option linter.unusedSimpArgs false
set_option linter.unusedVariables false
set_option maxRecDepth 100000
namespace Go.Cl
theorem aop_makeFunc {P : Program} {d : Option Tmp} {ty : TypeId} {ps : String} {af : Array Edge} {gd : Option (Nat × Bool)} {f : AFr} {s : ASt} (g : FuncId) (xs bs : Array Operand) : aop P ⟨d, .makeFunc (.func g) xs bs, ty, ps, af, gd⟩ f s = match evalAll f xs.toList, evalAll f bs.toList with
    | some l, some m => some (.val (.func (.func g) l.toArray m.toArray) s)
    | _, _ => none := rfl
/-- copy, from a slice: where it leads. -/
theorem Room.copyY {P : Program} {t e : TypeId} {s : ASt} (hu : P.underlying t = some (.slice e)) (hsz : sizeB P e = some 1) {v : Value} {n : Nat} {l : List Value} (h : Room s v n l) {lo : Nat} (hlo : lo ≤ n) {y : Value} {m : Nat} {new : List Value} (hy : Sees s 1 y m new) (hok : new.all okCell = true) :
    ∃ s', copyA P s t (cutS 1 v lo n) y = some (.int .i64 ((min m (n - lo) : Nat) : Int), s') ∧ Room s' v n (over l lo (new.take (min m (n - lo)))) ∧ Turns v s s' ∧ s'.next = s.next := by
  obtain ⟨y2, h1, h2⟩ := hy.cutSrc (n - lo)
  have hl := hy.length
  obtain ⟨s', g1, g2, g3, g4⟩ := h.copyS hu hsz hlo h1 (fun _ => h2) (by rw [List.length_take]; omega) (by omega) (by
    rw [List.all_eq_true] at hok ⊢
    exact fun x hx => hok x (List.mem_of_mem_take hx))
  exact ⟨s', g1, g2, g3, g4⟩
def intsZ (l : List Int) : List Value := l.map (.int .i64)
theorem intsZ_getD {l : List Int} {i : Nat} (h : i < l.length) : (intsZ l).getD i undef = .int .i64 (l.getD i 0) := by
  simp [intsZ, List.getD, List.getElem?_map, List.getElem?_eq_getElem h]
end Go.Cl
namespace Go.Proofs.Ytpdkppimlcbhlaa
open Go.Cl Go.Cl.Sf
theorem makeBytes (s : ASt) (n : Nat) (h : n ≤ 4294967296) : makeSliceA Try.prog s 27 (.int .i64 (n : Int)) (.int .i64 (n : Int)) = newSlice s (List.replicate n (.int .u8 0)) n 1 := makeInts Try.underlying27 szU8 zU8 byU8 (n := n) (by omega) h
/-- The lowest j bytes of a number are there. -/
def beLow (w n j : Nat) : List UInt8 := (List.range w).map fun p => if w - j ≤ p then UInt8.ofNat (n / 256 ^ (w - 1 - p)) else 0
theorem beLow_zero (w n : Nat) : beLow w n 0 = List.replicate w 0 := by
  apply List.ext_getElem
  · simp [beLow]
  · intro i h1 h2
    simp only [beLow, List.length_map, List.length_range] at h1
    simp [beLow]
    omega
theorem beLow_all (w n : Nat) : beLow w n w = be w n := by
  unfold beLow be beTo
  refine range_congr fun p hp => ?_
  rw [if_pos (by omega)]
theorem beLow_set (w n j : Nat) (h : j < w) : (beLow w n j).set (w - 1 - j) (UInt8.ofNat (n / 256 ^ j)) = beLow w n (j + 1) := by
  unfold beLow
  rw [range_set]
  refine range_congr fun p hp => ?_
  by_cases e : p = w - 1 - j
  · rw [if_pos e, if_pos (by omega), e, show w - 1 - (w - 1 - j) = j by omega]
  · rw [if_neg e]
    by_cases q : w - j ≤ p
    · rw [if_pos q, if_pos (by omega)]
    · rw [if_neg q, if_neg (by omega)]
theorem beLow_length (w n j : Nat) : (beLow w n j).length = w := by simp [beLow]
theorem ofBytes_rep (n : Nat) : ofBytes (List.replicate n 0) = List.replicate n (.int .u8 0) := by simp [ofBytes]
theorem ofBytes_set (l : List UInt8) (i : Nat) (b : UInt8) : (ofBytes l).set i (.int .u8 (b.toNat : Int)) = ofBytes (l.set i b) := by simp [ofBytes, List.map_set]
set_option maxHeartbeats 4000000 in
theorem sbig_any (s : ASt) (n w : Nat) (hw : w ≤ 8) (hn0 : n < 9223372036854775808) :
    Runs Try.prog libN 25 [.int .i64 (n : Nat), .int .i64 (w : Nat)] s fun v s' => NewBytes s v s' (be w n) := by
  refine Runs.enter 23 Try.func25 rfl rfl rfl rfl ?_
  intro f hn hf
  have h0 : f.get 0 = .int .i64 (n : Nat) := hf 0
  have h1 : f.get 1 = .int .i64 (w : Nat) := hf 1
  clear hf
  simp (config := { maxSteps := 1000000, implicitDefEqProofs := false }) (disch := omega) only [allW, allR, oneOf, evalAll, partsA, optA, Nat.reduceLT, Nat.reduceLeDiff, Nat.reduceEqDiff, Nat.reduceAdd, ↓reduceIte, hn, h0, h1, makeBytes _ w (by omega)]
  refine wstep_newSlice (by simp) ?_
  intro v s1 hv hvF hst
  rw [← ofBytes_rep, ← beLow_zero w n] at hv
  simp (config := { maxSteps := 1000000, implicitDefEqProofs := false }) (disch := omega) only [allW, allR, oneOf, evalAll, partsA, optA, Nat.reduceLT, Nat.reduceLeDiff, Nat.reduceEqDiff, Nat.reduceAdd, ↓reduceIte, hn, h0, h1, wrapI]
  refine Comes.loopAt (fun z f t => ∃ j : Nat, z = w - j ∧ j ≤ w ∧ Own t 1 v w (ofBytes (beLow w n j)) ∧ Stay s.next s t ∧ f.n = 23 ∧ f.get 0 = .int .i64 (n / 256 ^ j : Nat) ∧ f.get 5 = v ∧ f.get 6 = .int .i64 ((w : Int) - 1 - (j : Int)))
    ⟨0, rfl, by omega, hv, hst, by simp only [get_put, n_put, ↓reduceIte, Nat.reduceEqDiff, hn], by simp only [get_put, n_put, ↓reduceIte, Nat.reduceEqDiff, h0, Nat.pow_zero, Nat.div_one], by simp only [get_put, n_put, ↓reduceIte, Nat.reduceEqDiff], by simp only [get_put, n_put, ↓reduceIte, Nat.reduceEqDiff]; rw [Int.natCast_zero, Int.sub_zero]⟩ ?_
  clear hn h0 h1 f hv
  rintro z f t ⟨j, rfl, hj, hv, hst', hn, h0, h5, h6⟩
  by_cases hlt : j < w
  rotate_left
  · obtain rfl : j = w := by omega
    have d : ¬ (0 : Int) ≤ (j : Int) - 1 - (j : Int) := by omega
    simp (config := { maxSteps := 1000000, implicitDefEqProofs := false }) (disch := omega) only [allW, allR, wfn_ret, wfn_normal, oneOf, evalAll, partsA, optA, Nat.reduceLT, Nat.reduceLeDiff, Nat.reduceEqDiff, Nat.reduceAdd, ↓reduceIte, hn, h0, h5, h6, eq_false d, Try.results25]
    rw [beLow_all] at hv
    exact ⟨by rw [be_length]; exact hv, hvF, hst'⟩
  have d : (0 : Int) ≤ (w : Int) - 1 - (j : Int) := by omega
  have hix := hv.sees.indexAddr (P := Try.prog) (k := .i64) (x := (w : Int) - 1 - (j : Int)) Try.underlying27 szU8 (by omega) (by omega)
  rw [show ((w : Int) - 1 - (j : Int)).toNat = w - 1 - j by omega] at hix
  simp (config := { maxSteps := 1000000, implicitDefEqProofs := false }) (disch := omega) only [allW, allR, oneOf, evalAll, partsA, optA, Nat.reduceLT, Nat.reduceLeDiff, Nat.reduceEqDiff, Nat.reduceAdd, ↓reduceIte, hn, h0, h5, h6, eq_true d, conv_int Try.underlying3 Try.underlying5, u8_of, hix]
  refine wstep_storeElem szU8 hv (by omega) rfl ?_
  intro t1 hv1 hut
  rw [ofBytes_set, beLow_set w n j hlt] at hv1
  have hsh := shrBytes Try.prog 3 .u64 (n / 256 ^ j) 1 (x := 8) rfl (by decide)
  rw [Nat.pow_one, Nat.div_div_eq_div_mul, ← Nat.pow_succ] at hsh
  simp (config := { maxSteps := 1000000, implicitDefEqProofs := false }) (disch := omega) only [allW, allR, oneOf, evalAll, partsA, optA, Nat.reduceLT, Nat.reduceLeDiff, Nat.reduceEqDiff, Nat.reduceAdd, ↓reduceIte, hn, h0, h5, h6, hsh, wrapI]
  refine wround_next (w - (j + 1)) (by omega) ⟨j + 1, rfl, by omega, hv1, hst'.trans (hut.keeps hvF hst'.next), by simp only [get_put, n_put, ↓reduceIte, Nat.reduceEqDiff, hn], by simp only [get_put, n_put, ↓reduceIte, Nat.reduceEqDiff], by simp only [get_put, n_put, ↓reduceIte, Nat.reduceEqDiff, h5], ?_⟩
  simp only [get_put, n_put, ↓reduceIte, Nat.reduceEqDiff]
  rw [show (w : Int) - 1 - (j : Int) - 1 = (w : Int) - 1 - ((j + 1 : Nat) : Int) by omega]
set_option maxHeartbeats 4000000 in
theorem at_any (s : ASt) (size place n : Nat) (h1 : place + 2 ≤ size) (h2 : size ≤ 1000) (hn0 : n < 9223372036854775808) :
    Runs Try.prog libN 26 [.int .i64 (size : Nat), .int .i64 (place : Nat), .int .i64 (n : Nat)] s fun v s' => NewBytes s v s' (atB size place n) := by
  refine Runs.enter 17 Try.func26 rfl rfl rfl rfl ?_
  intro f hn hf
  have h0 : f.get 0 = .int .i64 (size : Nat) := hf 0
  have h1' : f.get 1 = .int .i64 (place : Nat) := hf 1
  have h2' : f.get 2 = .int .i64 (n : Nat) := hf 2
  clear hf
  simp (config := { maxSteps := 1000000, implicitDefEqProofs := false }) (disch := omega) only [allW, allR, oneOf, evalAll, partsA, optA, Nat.reduceLT, Nat.reduceLeDiff, Nat.reduceEqDiff, Nat.reduceAdd, ↓reduceIte, hn, h0, h1', h2', makeBytes _ size (by omega)]
  refine wstep_newSlice (by simp) ?_
  intro v s1 hv hvF hst
  simp (config := { maxSteps := 1000000, implicitDefEqProofs := false }) (disch := omega) only [allW, allR, oneOf, evalAll, partsA, optA, Nat.reduceLT, Nat.reduceLeDiff, Nat.reduceEqDiff, Nat.reduceAdd, ↓reduceIte, hn, h0, h1', h2']
  refine LB.Drawn.looseK (fun j => decide (j < s1.next)) (fun j h => of_decide_eq_true h) 1 0 (by kernel_rfl) (by kernel_rfl) ?_
  rw [spare_zero]
  have hlv : LA.lowV (fun j => decide (j < s1.next)) (some v) = true := LA.lowV_own hv (fun i hi => decide_eq_true (hv.idlt i hi))
  have hsl := hv.room.slice (P := Try.prog) (k := .i64) (x := (place : Int)) Try.underlying27 szU8 (by omega) (by omega)
  rw [Int.toNat_natCast] at hsl
  simp (config := { maxSteps := 1000000, implicitDefEqProofs := false }) (disch := omega) only [allW, allR, allL, allB, Nat.sub_self, Nat.add_one_sub_one, Nat.reduceSub, oneOf, evalAll, partsA, optA, Nat.reduceLT, Nat.reduceLeDiff, Nat.reduceEqDiff, Nat.reduceAdd, ↓reduceIte, hn, h0, h1', h2', hlv, hsl, hv.self, valEq_int, valEq_cutS]
  refine (sbig_any s1 n 2 (by omega) hn0).mono ?_
  rintro b s2 ⟨hb, hbF, hst2⟩
  refine ⟨fun _ => LA.Stay.toA (fun i hi => of_decide_eq_true hi) hst2, ?_⟩
  have hv2 := hv.keeps hst2
  obtain ⟨s3, hcp, hr3, hut3, hnx3⟩ := hv2.room.copyY (P := Try.prog) Try.underlying27 szU8 (lo := place) (by omega) hb.sees (ofBytes_ok _)
  simp (config := { maxSteps := 1000000, implicitDefEqProofs := false }) (disch := omega) only [allW, allR, allL, allB, Nat.sub_self, Nat.add_one_sub_one, Nat.reduceSub, oneOf, evalAll, partsA, optA, Nat.reduceLT, Nat.reduceLeDiff, Nat.reduceEqDiff, Nat.reduceAdd, ↓reduceIte, hn, h0, h1', h2', hcp]
  rw [LB.sstep_val]
  refine ⟨fun h => by simp at h, ?_⟩
  simp (config := { maxSteps := 1000000, implicitDefEqProofs := false }) (disch := omega) only [allW, allR, allL, allB, Nat.sub_self, Nat.add_one_sub_one, Nat.reduceSub, oneOf, evalAll, partsA, optA, Nat.reduceLT, Nat.reduceLeDiff, Nat.reduceEqDiff, Nat.reduceAdd, ↓reduceIte, hn, h0, h1', h2']
  simp (config := { maxSteps := 1000000, implicitDefEqProofs := false }) (disch := omega) only [allW, allR, wfn_ret, wfn_normal, oneOf, evalAll, partsA, optA, Nat.reduceLT, Nat.reduceLeDiff, Nat.reduceEqDiff, Nat.reduceAdd, ↓reduceIte, hn, Try.results26]
  have ho := hr3.own (by omega)
  rw [be_length, Nat.min_eq_left (by omega), List.take_of_length_le (by rw [ofBytes_length, be_length]; omega)] at ho
  have e : over (List.replicate size (.int .u8 0)) place (ofBytes (be 2 n)) = ofBytes (atB size place n) := by
    unfold over atB
    rw [ofBytes_append, ofBytes_append, ofBytes_rep, ofBytes_rep, ofBytes_length, be_length]
    simp only [List.take_replicate, List.drop_replicate, Nat.min_eq_left (show place ≤ size by omega)]
  rw [e] at ho
  exact ⟨by rw [atB_length h1]; exact ho, hvF, (hst.trans (hst2.weaken hst.next)).trans (hut3.keeps hvF (by have := hst.next; have := hst2.next; omega))⟩
end Go.Proofs.Ytpdkppimlcbhlaa
