/-
  Inflate, the program: codes that are made, the fixed ones.
-/
import Derived.Test.YtnclklboogdoiaaNfH
set_option linter.unusedSimpArgs false
set_option linter.unusedVariables false
set_option maxRecDepth 100000
namespace Go.Cl.Nf
open Go.Cl.Fx Go.Cl.Sto
theorem cn_take_next {C : List Nat} {i : Nat} (hi : i < C.length) (n : Nat) : cn (C.take (i + 1)) n = cn (C.take i) n + if C.getD i 0 = n ∧ n ≠ 0 then 1 else 0 := by
  unfold cn
  by_cases h : n = 0
  · subst h; simp
  · rw [if_neg h, if_neg h, take_countS hi]
    by_cases c : C.getD i 0 = n
    · rw [if_pos c, if_pos ⟨c, h⟩]
    · rw [if_neg c, if_neg (fun q => c q.1)]
theorem cn_take_le (C : List Nat) (i n : Nat) : cn (C.take i) n ≤ C.length := by
  unfold cn
  split
  · omega
  · exact Nat.le_trans List.count_le_length (by rw [List.length_take]; omega)
theorem flat_loop (C : List Nat) (n : Nat) : flatA C n ++ idxA C (n + 1) C.length = flatA C (n + 1) := rfl
/-- So many of each number. -/
def rowsC : List (Nat × Nat) → List Nat
  | [] => []
  | (a, b) :: r => List.replicate a b ++ rowsC r
def rowsV (L : List (Nat × Nat)) : List Value := L.flatMap fun p => [.int .i64 (p.1 : Nat), .int .i64 (p.2 : Nat)]
theorem rowsV_at : ∀ {L : List (Nat × Nat)} {i : Nat}, i < L.length → ((rowsV L).drop (i * 2)).take 2 = [.int .i64 ((L.getD i (0, 0)).1 : Nat), .int .i64 ((L.getD i (0, 0)).2 : Nat)]
  | [], i, h => by simp at h
  | p :: r, 0, h => rfl
  | p :: r, i + 1, h => by
    have := rowsV_at (L := r) (i := i) (by simpa using h)
    show ((List.drop ((i + 1) * 2) ([Value.int .i64 (p.1 : Nat), Value.int .i64 (p.2 : Nat)] ++ rowsV r))).take 2 = _
    rw [show (i + 1) * 2 = 2 + i * 2 by omega, ← List.drop_drop]
    exact this
theorem rowsC_take : ∀ {L : List (Nat × Nat)} {i : Nat}, i < L.length → rowsC (L.take (i + 1)) = rowsC (L.take i) ++ List.replicate (L.getD i (0, 0)).1 (L.getD i (0, 0)).2
  | [], i, h => by simp at h
  | (a, b) :: r, 0, h => by simp [rowsC]
  | (a, b) :: r, i + 1, h => by
    have := rowsC_take (L := r) (i := i) (by simpa using h)
    simp only [List.take_succ_cons, rowsC]
    rw [this, List.append_assoc]; rfl
end Go.Cl.Nf
namespace Go.Proofs.Ytnclklboogdoiaa
open Go.Cl Go.Cl.Rw Go.Cl.Sto Go.Cl.Fx Go.Cl.Nf Go.Cl.Bt
theorem zCode : zeroB Try.prog 91 = some (.agg (codeV [] (.slice none 0 0)).toArray) := by kernel_rfl
theorem pCode : plainV (.agg (codeV [] (.slice none 0 0)).toArray) = true := by kernel_rfl
theorem codeV_next {C : List Nat} {i : Nat} (hi : i < C.length) (h0 : 0 < C.getD i 0) (h15 : C.getD i 0 ≤ 15) (sv : Value) : (codeV (C.take i) sv).set (C.getD i 0) (.int .i64 ((cn (C.take i) (C.getD i 0) + 1 : Nat) : Int)) = codeV (C.take (i + 1)) sv := by
  refine List.ext_getElem (by rw [List.length_set, codeV_length, codeV_length]) (fun j h1 h2 => ?_)
  rw [codeV_length] at h2
  have e : ∀ (T : List Nat) (hj : j < (codeV T sv).length), (codeV T sv)[j] = (codeV T sv).getD j undef := fun T hj => by rw [List.getD_eq_getElem?_getD, List.getElem?_eq_getElem hj]; rfl
  rw [List.getElem_set]
  by_cases c : C.getD i 0 = j
  · rw [if_pos c, e, codeV_at _ _ (by omega), cn_take_next hi, if_pos ⟨c, by omega⟩, c]
  · rw [if_neg c, e, e]
    by_cases c16 : j < 16
    · rw [codeV_at _ _ c16, codeV_at _ _ c16, cn_take_next hi, if_neg (fun q => c q.1), Nat.add_zero]
    · obtain rfl : j = 16 := by omega
      rw [codeV_sv, codeV_sv]
theorem codeV_same {C : List Nat} {i : Nat} (hi : i < C.length) (h0 : ¬ 0 < C.getD i 0) (sv : Value) : codeV (C.take (i + 1)) sv = codeV (C.take i) sv := by
  unfold codeV
  congr 1
  refine List.map_congr_left (fun n _ => ?_)
  rw [cn_take_next hi, if_neg (fun q => by omega), Nat.add_zero]
theorem codeV_setS (C : List Nat) (sv sw : Value) : (codeV C sv).set 16 sw = codeV C sw := by
  refine List.ext_getElem (by rw [List.length_set, codeV_length, codeV_length]) (fun j h1 h2 => ?_)
  rw [codeV_length] at h2
  have e : ∀ (T : Value) (hj : j < (codeV C T).length), (codeV C T)[j] = (codeV C T).getD j undef := fun T hj => by rw [List.getD_eq_getElem?_getD, List.getElem?_eq_getElem hj]; rfl
  rw [List.getElem_set]
  by_cases c : 16 = j
  · subst c; rw [if_pos rfl, e, codeV_sv]
  · rw [if_neg c, e, e, codeV_at _ _ (by omega), codeV_at _ _ (by omega)]
theorem codeV_ok (C : List Nat) {sv : Value} (h : okCell sv = true) : (codeV C sv).all okCell = true := by
  unfold codeV
  rw [List.all_append, Bool.and_eq_true]
  exact ⟨by rw [List.all_map, List.all_eq_true]; intro n _; rfl, by simp [h]⟩
theorem valEqL_ofAll : ∀ {l : List Value}, (∀ v ∈ l, valEq1 v v = true) → valEqL l l = true
  | [], _ => rfl
  | v :: l, h => by
    simp only [valEqL, Bool.and_eq_true]
    exact ⟨h v (List.mem_cons_self ..), valEqL_ofAll (fun w hw => h w (List.mem_cons_of_mem _ hw))⟩
theorem valEq_code {s : ASt} {sv : Value} {n : Nat} {L : List Value} (C : List Nat) (h : Sees s 1 sv n L) : valEq (.agg (codeV C sv).toArray) (.agg (codeV C sv).toArray) = true := by
  show valEqL (codeV C sv) (codeV C sv) = true
  refine valEqL_ofAll (fun v hv => ?_)
  unfold codeV at hv
  rcases List.mem_append.1 hv with hv | hv
  · obtain ⟨n, -, rfl⟩ := List.mem_map.1 hv
    simp [valEq1]
  · rw [List.mem_singleton.1 hv]
    cases h <;> simp [valEq1]
/-- A code, new. -/
def MadeR (s : ASt) (C : List Nat) (v : Value) (s' : ASt) : Prop := ∃ sv, v = .tuple #[.agg (codeV C sv).toArray, .bool (decide (mayC C))] ∧ Own s' 1 sv (flatA C 15).length (natsV (flatA C 15)) ∧ Fresh s.next sv ∧ Stay s.next s s'
set_option maxHeartbeats 8000000 in
theorem made_any {lib : Prims} (hL : NoL lib) (s : ASt) (x : Value) (C : List Nat) (hx : Sees s 1 x C.length (natsV C)) (hlen : C.length ≤ 1000) (h15 : Le15 C) :
    Runs Try.prog lib 66 [x] s (MadeR s C) := by
  refine Runs.enter 67 Try.func66 rfl (hL _ rfl) rfl rfl ?_
  intro f hn hf
  have h0 : f.get 0 = x := hf 0
  clear hf
  simp (config := { maxSteps := 1000000, implicitDefEqProofs := false }) (disch := omega) only [allW, ↓reduceIte, zCode, pCode]
  refine wstep_newPtr ?_
  intro s1 hr1 hst1 hnx1
  obtain ⟨j2, hj2⟩ : ∃ j, j = s.next := ⟨_, rfl⟩
  rw [← hj2] at hr1
  simp (config := { maxSteps := 1000000, implicitDefEqProofs := false }) (disch := omega) only [allW, Nat.reduceLT, Nat.reduceAdd, ↓reduceIte, hn, ← hj2, codeV_length, zCode, pCode]
  refine wstep_newPtr ?_
  intro s2 hc2 hst2 hnx2
  obtain ⟨j4, hj4⟩ : ∃ j, j = s1.next := ⟨_, rfl⟩
  rw [← hj4] at hc2
  have hr2 := hr1.keeps hst2
  have hst12 : Stay s.next s s2 := hst1.trans (hst2.weaken (by omega))
  have hx2 := hx.keeps hst12
  simp (config := { maxSteps := 1000000, implicitDefEqProofs := false }) (disch := omega) only [allW, evalAll, Nat.reduceLT, Nat.reduceEqDiff, Nat.reduceAdd, ↓reduceIte, hn, h0, ← hj4, codeV_length, hx2.lenA uIntsF]
  refine Comes.loopOut (fun z f t => ∃ i : Nat, z = C.length - i ∧ i ≤ C.length ∧ Thing t j2 (codeV [] (.slice none 0 0)) ∧ Thing t j4 (codeV (C.take i) (.slice none 0 0)) ∧ Stay s.next s t ∧ t.next = s2.next ∧ f.n = 67 ∧ f.get 0 = x ∧ f.get 2 = .pointer (some ⟨j2, 0, some 18⟩) ∧ f.get 4 = .pointer (some ⟨j4, 0, some 18⟩) ∧ f.get 5 = .int .i64 (sumC (C.take i) : Nat) ∧ f.get 6 = .int .i64 (manyC (C.take i) : Nat) ∧ f.get 12 = x ∧ f.get 13 = .int .i64 (C.length : Nat) ∧ f.get 14 = .int .i64 (i : Nat))
    (fun z f t => z = .exit 0 ∧ Thing t j2 (codeV [] (.slice none 0 0)) ∧ Thing t j4 (codeV C (.slice none 0 0)) ∧ Stay s.next s t ∧ t.next = s2.next ∧ f.n = 67 ∧ f.get 0 = x ∧ f.get 2 = .pointer (some ⟨j2, 0, some 18⟩) ∧ f.get 4 = .pointer (some ⟨j4, 0, some 18⟩) ∧ f.get 5 = .int .i64 (sumC C : Nat) ∧ f.get 6 = .int .i64 (manyC C : Nat))
    ⟨0, rfl, by omega, hr2, hc2, hst12, rfl, by simp only [n_put, hn], by simp only [get_put, ↓reduceIte, Nat.reduceEqDiff, h0], by simp only [get_put, ↓reduceIte, Nat.reduceEqDiff], by simp only [get_put, ↓reduceIte, Nat.reduceEqDiff], by simp only [get_put, ↓reduceIte, Nat.reduceEqDiff]; rfl, by simp only [get_put, ↓reduceIte, Nat.reduceEqDiff]; rfl, by simp only [get_put, ↓reduceIte, Nat.reduceEqDiff], by simp only [get_put, ↓reduceIte, Nat.reduceEqDiff], by simp only [get_put, ↓reduceIte]; rfl⟩ ?_ ?_
  · clear hn h0 f hr1 hr2 hc2 hst1 hst2 hst12 hx2
    rintro Q hQ z f t ⟨i, rfl, hi, hr, hc, hst, hnt, hn, h0, h2, h4, h5, h6, h12, h13, h14⟩
    have hxt := hx.keeps hst
    by_cases hic : i < C.length
    rotate_left
    · obtain rfl : i = C.length := by omega
      have d1 : ¬ ((C.length : Nat) : Int) < ((C.length : Nat) : Int) := by omega
      rw [List.take_length] at hc h5 h6
      simp (config := { maxSteps := 1000000, implicitDefEqProofs := false }) (disch := omega) only [allW, Nat.reduceLT, ↓reduceIte, hn, h13, h14, eq_false d1]
      exact hQ _ _ _ ⟨rfl, hr, hc, hst, hnt, by simp only [n_put, hn], by simp only [get_put, ↓reduceIte, Nat.reduceEqDiff, h0], by simp only [get_put, ↓reduceIte, Nat.reduceEqDiff, h2], by simp only [get_put, ↓reduceIte, Nat.reduceEqDiff, h4], by simp only [get_put, ↓reduceIte, Nat.reduceEqDiff, h5], by simp only [get_put, ↓reduceIte, Nat.reduceEqDiff, h6]⟩
    have d1 : (i : Int) < ((C.length : Nat) : Int) := by omega
    have hi1 := hxt.indexAddr (P := Try.prog) (k := .i64) (x := (i : Int)) uIntsF szInt (by omega) (by omega)
    rw [Int.toNat_natCast] at hi1
    have k1 := hxt.load1 (P := Try.prog) agInt hic
    rw [natsV_getD hic] at k1
    have hs := sumC_next hic
    have hm := manyC_next hic
    have hc15 := h15 i
    have hsl := sumC_le (C.take i)
    have hml := manyC_le (C.take i)
    have htl : (C.take i).length = i := by rw [List.length_take]; omega
    by_cases e1 : 0 < C.getD i 0
    · have d3 : ((C.getD i 0 : Nat) : Int) > 0 := by omega
      rw [if_pos e1] at hs hm
      have e2 : (15 : Int) - ((C.getD i 0 : Nat) : Int) = ((15 - C.getD i 0 : Nat) : Int) := by omega
      have hsh := shlI Try.prog 3 .i64 (b := 1) (by decide) (k := 15 - C.getD i 0) (by omega)
      rw [Nat.one_mul] at hsh
      have hsh : binA Try.prog .shl 3 (.int .i64 1) (.int .i64 ((15 - C.getD i 0 : Nat) : Int)) = some (.int .i64 ((2 ^ (15 - C.getD i 0) : Nat) : Int)) := hsh
      have hpw : 2 ^ (15 - C.getD i 0) ≤ 2 ^ 15 := Nat.pow_le_pow_right (by omega) (by omega)
      have hp2 : (2 : Nat) ^ 15 = 32768 := by decide
      generalize 2 ^ (15 - C.getD i 0) = W at hs hsh hpw
      have e3 : ((sumC (C.take i) : Nat) : Int) + ((W : Nat) : Int) = ((sumC (C.take (i + 1)) : Nat) : Int) := by omega
      have e4 : ((manyC (C.take i) : Nat) : Int) + 1 = ((manyC (C.take (i + 1)) : Nat) : Int) := by omega
      have ik := arrAt (P := Try.prog) uArr szInt j4 0 18 (x := ((C.getD i 0 : Nat) : Int)) (by omega) (by omega) .i64
      rw [Int.toNat_natCast, Nat.zero_add] at ik
      have lk := hc.load (P := Try.prog) agInt (off := C.getD i 0) (c := 18) (by rw [codeV_length]) (by rw [codeV_length]; omega)
      rw [codeV_at _ _ (by omega)] at lk
      have hcl := cn_take_le C i (C.getD i 0)
      have e5 : ((cn (C.take i) (C.getD i 0) : Nat) : Int) + 1 = ((cn (C.take i) (C.getD i 0) + 1 : Nat) : Int) := by omega
      simp (config := { maxSteps := 1000000, implicitDefEqProofs := false }) (disch := omega) only [allW, Nat.reduceLT, Nat.reduceEqDiff, ↓reduceIte, hn, h4, h12, h13, h14, eq_true d1, hi1, k1, eq_true d3, kfld0, ik, lk, wrapI, e5]
      refine wstep_store szInt hc (by rw [codeV_length]) (by rw [codeV_length]; omega) rfl ?_
      intro t2 hc2 hn2 hs2
      rw [codeV_next hic e1 hc15] at hc2
      simp (config := { maxSteps := 1000000, implicitDefEqProofs := false }) (disch := omega) only [allW, Nat.reduceLT, Nat.reduceEqDiff, ↓reduceIte, hn, h5, h6, h14, e2, wrapI, hsh, e3, e4]
      exact wround_next (C.length - (i + 1)) (by omega) ⟨i + 1, rfl, by omega, hr.ofPut hn2 hs2 (by omega), hc2, hst.trans (Stay.ofPut hn2 hs2 (by omega)), by omega, by simp only [n_put, hn], by simp only [get_put, ↓reduceIte, Nat.reduceEqDiff, h0], by simp only [get_put, ↓reduceIte, Nat.reduceEqDiff, h2], by simp only [get_put, ↓reduceIte, Nat.reduceEqDiff, h4], by simp only [get_put, ↓reduceIte, Nat.reduceEqDiff], by simp only [get_put, ↓reduceIte, Nat.reduceEqDiff], by simp only [get_put, ↓reduceIte, Nat.reduceEqDiff, h12], by simp only [get_put, ↓reduceIte, Nat.reduceEqDiff, h13], by simp only [get_put, ↓reduceIte]; rfl⟩
    · have d3 : ¬ ((C.getD i 0 : Nat) : Int) > 0 := by omega
      rw [if_neg e1] at hs hm
      simp (config := { maxSteps := 1000000, implicitDefEqProofs := false }) (disch := omega) only [allW, Nat.reduceLT, Nat.reduceEqDiff, ↓reduceIte, hn, h12, h13, h14, eq_true d1, hi1, k1, eq_false d3, wrapI]
      exact wround_next (C.length - (i + 1)) (by omega) ⟨i + 1, rfl, by omega, hr, by rw [codeV_same hic e1]; exact hc, hst, hnt, by simp only [n_put, hn], by simp only [get_put, ↓reduceIte, Nat.reduceEqDiff, h0], by simp only [get_put, ↓reduceIte, Nat.reduceEqDiff, h2], by simp only [get_put, ↓reduceIte, Nat.reduceEqDiff, h4], by simp only [get_put, ↓reduceIte, Nat.reduceEqDiff, h5]; rw [hs, Nat.add_zero], by simp only [get_put, ↓reduceIte, Nat.reduceEqDiff, h6]; rw [hm, Nat.add_zero], by simp only [get_put, ↓reduceIte, Nat.reduceEqDiff, h12], by simp only [get_put, ↓reduceIte, Nat.reduceEqDiff, h13], by simp only [get_put, ↓reduceIte]; rfl⟩
  clear hn h0 f hr1 hr2 hc2 hst1 hst2 hst12 hx2
  rintro z f t ⟨rfl, hr, hc, hst, hnt, hn, h0, h2, h4, h5, h6⟩
  have hflat := count_two C
  simp (config := { maxSteps := 1000000, implicitDefEqProofs := false }) (disch := omega) only [allW, Nat.reduceLT, ↓reduceIte, hn]
  refine Comes.loopOut (fun z f t => ∃ (k : Nat) (y : Value), z = 15 - k ∧ k ≤ 15 ∧ Thing t j2 (codeV [] (.slice none 0 0)) ∧ Thing t j4 (codeV C y) ∧ Own t 1 y (flatA C k).length (natsV (flatA C k)) ∧ Fresh s2.next y ∧ Stay s.next s t ∧ s2.next ≤ t.next ∧ f.n = 67 ∧ f.get 0 = x ∧ f.get 2 = .pointer (some ⟨j2, 0, some 18⟩) ∧ f.get 4 = .pointer (some ⟨j4, 0, some 18⟩) ∧ f.get 5 = .int .i64 (sumC C : Nat) ∧ f.get 6 = .int .i64 (manyC C : Nat) ∧ f.get 9 = .int .i64 ((k : Int) + 1))
    (fun z f t => z = .exit 2 ∧ ∃ y : Value, Thing t j2 (codeV [] (.slice none 0 0)) ∧ Thing t j4 (codeV C y) ∧ Own t 1 y (flatA C 15).length (natsV (flatA C 15)) ∧ Fresh s2.next y ∧ Stay s.next s t ∧ f.n = 67 ∧ f.get 2 = .pointer (some ⟨j2, 0, some 18⟩) ∧ f.get 4 = .pointer (some ⟨j4, 0, some 18⟩) ∧ f.get 5 = .int .i64 (sumC C : Nat) ∧ f.get 6 = .int .i64 (manyC C : Nat))
    ⟨0, _, rfl, by omega, hr, hc, .nil, Fresh.nil _, hst, by omega, by simp only [n_put, hn], by simp only [get_put, ↓reduceIte, Nat.reduceEqDiff, h0], by simp only [get_put, ↓reduceIte, Nat.reduceEqDiff, h2], by simp only [get_put, ↓reduceIte, Nat.reduceEqDiff, h4], by simp only [get_put, ↓reduceIte, Nat.reduceEqDiff, h5], by simp only [get_put, ↓reduceIte, Nat.reduceEqDiff, h6], by simp only [get_put, ↓reduceIte]; rfl⟩ ?_ ?_
  · clear hn h0 h2 h4 h5 h6 f hr hc hst hnt
    rintro Q hQ z f t ⟨k, y, rfl, hk, hr, hc, hy, hyF, hst, hnt, hn, h0, h2, h4, h5, h6, h9⟩
    by_cases hk15 : k < 15
    rotate_left
    · obtain rfl : k = 15 := by omega
      have d1 : ¬ ((15 : Nat) : Int) + 1 ≤ 15 := by omega
      simp (config := { maxSteps := 1000000, implicitDefEqProofs := false }) (disch := omega) only [allW, Nat.reduceLT, ↓reduceIte, hn, h9, eq_false d1]
      exact hQ _ _ _ ⟨rfl, y, hr, hc, hy, hyF, hst, by simp only [n_put, hn], by simp only [get_put, ↓reduceIte, Nat.reduceEqDiff, h2], by simp only [get_put, ↓reduceIte, Nat.reduceEqDiff, h4], by simp only [get_put, ↓reduceIte, Nat.reduceEqDiff, h5], by simp only [get_put, ↓reduceIte, Nat.reduceEqDiff, h6]⟩
    have d1 : (k : Int) + 1 ≤ 15 := by omega
    have hxt := hx.keeps hst
    simp (config := { maxSteps := 1000000, implicitDefEqProofs := false }) (disch := omega) only [allW, evalAll, Nat.reduceLT, Nat.reduceEqDiff, ↓reduceIte, hn, h0, h9, eq_true d1, hxt.lenA uIntsF]
    refine Comes.loopOut (fun z f t => ∃ (i : Nat) (y : Value), z = C.length - i ∧ i ≤ C.length ∧ Thing t j2 (codeV [] (.slice none 0 0)) ∧ Thing t j4 (codeV C y) ∧ Own t 1 y (flatA C k ++ idxA C (k + 1) i).length (natsV (flatA C k ++ idxA C (k + 1) i)) ∧ Fresh s2.next y ∧ Stay s.next s t ∧ s2.next ≤ t.next ∧ f.n = 67 ∧ f.get 0 = x ∧ f.get 2 = .pointer (some ⟨j2, 0, some 18⟩) ∧ f.get 4 = .pointer (some ⟨j4, 0, some 18⟩) ∧ f.get 5 = .int .i64 (sumC C : Nat) ∧ f.get 6 = .int .i64 (manyC C : Nat) ∧ f.get 9 = .int .i64 ((k : Int) + 1) ∧ f.get 39 = x ∧ f.get 40 = .int .i64 (C.length : Nat) ∧ f.get 41 = .int .i64 (i : Nat))
      (fun z f t => z = .exit 4 ∧ ∃ y : Value, Thing t j2 (codeV [] (.slice none 0 0)) ∧ Thing t j4 (codeV C y) ∧ Own t 1 y (flatA C (k + 1)).length (natsV (flatA C (k + 1))) ∧ Fresh s2.next y ∧ Stay s.next s t ∧ s2.next ≤ t.next ∧ f.n = 67 ∧ f.get 0 = x ∧ f.get 2 = .pointer (some ⟨j2, 0, some 18⟩) ∧ f.get 4 = .pointer (some ⟨j4, 0, some 18⟩) ∧ f.get 5 = .int .i64 (sumC C : Nat) ∧ f.get 6 = .int .i64 (manyC C : Nat) ∧ f.get 9 = .int .i64 ((k : Int) + 1))
      ⟨0, y, rfl, by omega, hr, hc, by simp only [idxA, List.append_nil]; exact hy, hyF, hst, hnt, by simp only [n_put, hn], by simp only [get_put, ↓reduceIte, Nat.reduceEqDiff, h0], by simp only [get_put, ↓reduceIte, Nat.reduceEqDiff, h2], by simp only [get_put, ↓reduceIte, Nat.reduceEqDiff, h4], by simp only [get_put, ↓reduceIte, Nat.reduceEqDiff, h5], by simp only [get_put, ↓reduceIte, Nat.reduceEqDiff, h6], by simp only [get_put, ↓reduceIte, Nat.reduceEqDiff, h9], by simp only [get_put, ↓reduceIte, Nat.reduceEqDiff], by simp only [get_put, ↓reduceIte, Nat.reduceEqDiff], by simp only [get_put, ↓reduceIte]; rfl⟩ ?_ ?_
    · clear hn h0 h2 h4 h5 h6 h9 f hr hc hy hyF hst hnt hxt
      rintro Q2 hQ2 z f t ⟨i, y, rfl, hi, hr, hc, hy, hyF, hst, hnt, hn, h0, h2, h4, h5, h6, h9, h39, h40, h41⟩
      have hxt := hx.keeps hst
      by_cases hic : i < C.length
      rotate_left
      · obtain rfl : i = C.length := by omega
        have d2 : ¬ ((C.length : Nat) : Int) < ((C.length : Nat) : Int) := by omega
        rw [flat_loop] at hy
        simp (config := { maxSteps := 1000000, implicitDefEqProofs := false }) (disch := omega) only [allW, Nat.reduceLT, ↓reduceIte, hn, h40, h41, eq_false d2]
        exact hQ2 _ _ _ ⟨rfl, y, hr, hc, hy, hyF, hst, hnt, by simp only [n_put, hn], by simp only [get_put, ↓reduceIte, Nat.reduceEqDiff, h0], by simp only [get_put, ↓reduceIte, Nat.reduceEqDiff, h2], by simp only [get_put, ↓reduceIte, Nat.reduceEqDiff, h4], by simp only [get_put, ↓reduceIte, Nat.reduceEqDiff, h5], by simp only [get_put, ↓reduceIte, Nat.reduceEqDiff, h6], by simp only [get_put, ↓reduceIte, Nat.reduceEqDiff, h9]⟩
      have d2 : (i : Int) < ((C.length : Nat) : Int) := by omega
      have hi1 := hxt.indexAddr (P := Try.prog) (k := .i64) (x := (i : Int)) uIntsF szInt (by omega) (by omega)
      rw [Int.toNat_natCast] at hi1
      have k1 := hxt.load1 (P := Try.prog) agInt hic
      rw [natsV_getD hic] at k1
      by_cases e1 : C.getD i 0 = k + 1
      · have d3 : ((C.getD i 0 : Nat) : Int) = (k : Int) + 1 := by omega
        have lsv := hc.load (P := Try.prog) agIntsS (off := 16) (c := 18) (by rw [codeV_length]) (by rw [codeV_length]; omega)
        rw [codeV_sv] at lsv
        have hlen2 : (flatA C k ++ idxA C (k + 1) i).length ≤ 3000 := by
          have h1 := hflat k
          have h2 := idxA_length C (k + 1) i (by omega)
          have h3 : (C.take i).count (k + 1) ≤ (C.take i).length := List.count_le_length
          rw [List.length_take] at h3
          rw [List.length_append]; omega
        simp (config := { maxSteps := 1000000, implicitDefEqProofs := false }) (disch := omega) only [allW, partsA, Nat.reduceLT, Nat.reduceEqDiff, ↓reduceIte, hn, h4, h9, h39, h40, h41, eq_true d2, hi1, k1, eq_true d3, kfld1, lsv, build1 uIntsF szInt zIntF]
        refine wstep_append_lit uIntsF szInt byIntF zIntF rfl hy (by simp only [get_put, ↓reduceIte, Nat.reduceEqDiff]) (by decide) (by simp only [n_put, hn]; decide) (by simp only [n_put, hn]; decide) (by rfl) (by decide) rfl (by omega) (by omega) hyF hnt ?_
        intro bs y2 t2 hy2 hyF2 hst2 ht2 hid2
        have hj2y : idOf y ≠ some j2 := fun e => by have := hyF _ e; omega
        have hj4y : idOf y ≠ some j4 := fun e => by have := hyF _ e; omega
        have hj4y2 : idOf y2 ≠ some j4 := fun e => by have := hyF2 _ e; omega
        have hr2 := hr.turns ht2 hj2y
        have hc2 := hc.turns ht2 hj4y
        have e6 : natsV (flatA C k ++ idxA C (k + 1) i) ++ [Value.int .i64 (i : Nat)] = natsV (flatA C k ++ idxA C (k + 1) (i + 1)) := by
          simp only [idxA]
          rw [if_pos e1, ← List.append_assoc]
          exact natsV_app _ [i]
        have e7 : (flatA C k ++ idxA C (k + 1) i).length + 1 = (flatA C k ++ idxA C (k + 1) (i + 1)).length := by
          simp only [idxA]
          rw [if_pos e1, ← List.append_assoc]
          simp only [List.length_append, List.length_singleton]
        rw [e6, e7] at hy2
        simp (config := { maxSteps := 1000000, implicitDefEqProofs := false }) (disch := omega) only [allW, Nat.reduceLT, Nat.reduceEqDiff, ↓reduceIte, hn, h4, kfld1]
        refine wstep_store szIntsS hc2 (by rw [codeV_length]) (by rw [codeV_length]; omega) hy2.sees.okCell ?_
        intro t3 hc3 hn3 hs3
        rw [codeV_setS] at hc3
        simp (config := { maxSteps := 1000000, implicitDefEqProofs := false }) (disch := omega) only [allW, Nat.reduceLT, Nat.reduceEqDiff, ↓reduceIte, hn, h41, wrapI]
        have hn2' := ht2.next
        exact wround_next (C.length - (i + 1)) (by omega) ⟨i + 1, y2, rfl, by omega, hr2.ofPut hn3 hs3 (by omega), hc3, hy2.ofPut hn3 hs3 hj4y2, hyF2, (hst.trans (hst2.weaken (by omega))).trans (Stay.ofPut hn3 hs3 (by omega)), by omega, by simp only [n_put, hn], by simp only [get_put, ↓reduceIte, Nat.reduceEqDiff, h0], by simp only [get_put, ↓reduceIte, Nat.reduceEqDiff, h2], by simp only [get_put, ↓reduceIte, Nat.reduceEqDiff, h4], by simp only [get_put, ↓reduceIte, Nat.reduceEqDiff, h5], by simp only [get_put, ↓reduceIte, Nat.reduceEqDiff, h6], by simp only [get_put, ↓reduceIte, Nat.reduceEqDiff, h9], by simp only [get_put, ↓reduceIte, Nat.reduceEqDiff, h39], by simp only [get_put, ↓reduceIte, Nat.reduceEqDiff, h40], by simp only [get_put, ↓reduceIte]; rfl⟩
      · have d3 : ¬ ((C.getD i 0 : Nat) : Int) = (k : Int) + 1 := by omega
        have e8 : idxA C (k + 1) (i + 1) = idxA C (k + 1) i := by simp only [idxA]; rw [if_neg e1, List.append_nil]
        simp (config := { maxSteps := 1000000, implicitDefEqProofs := false }) (disch := omega) only [allW, Nat.reduceLT, Nat.reduceEqDiff, ↓reduceIte, hn, h9, h39, h40, h41, eq_true d2, hi1, k1, eq_false d3, wrapI]
        exact wround_next (C.length - (i + 1)) (by omega) ⟨i + 1, y, rfl, by omega, hr, hc, by rw [e8]; exact hy, hyF, hst, hnt, by simp only [n_put, hn], by simp only [get_put, ↓reduceIte, Nat.reduceEqDiff, h0], by simp only [get_put, ↓reduceIte, Nat.reduceEqDiff, h2], by simp only [get_put, ↓reduceIte, Nat.reduceEqDiff, h4], by simp only [get_put, ↓reduceIte, Nat.reduceEqDiff, h5], by simp only [get_put, ↓reduceIte, Nat.reduceEqDiff, h6], by simp only [get_put, ↓reduceIte, Nat.reduceEqDiff, h9], by simp only [get_put, ↓reduceIte, Nat.reduceEqDiff, h39], by simp only [get_put, ↓reduceIte, Nat.reduceEqDiff, h40], by simp only [get_put, ↓reduceIte]; rfl⟩
    clear hn h0 h2 h4 h5 h6 h9 f hr hc hy hyF hst hnt hxt
    rintro z f t ⟨rfl, y, hr, hc, hy, hyF, hst, hnt, hn, h0, h2, h4, h5, h6, h9⟩
    simp (config := { maxSteps := 1000000, implicitDefEqProofs := false }) (disch := omega) only [allW, Nat.reduceLT, ↓reduceIte, hn, h9, wrapI]
    exact wround_next (15 - (k + 1)) (by omega) ⟨k + 1, y, rfl, by omega, hr, hc, hy, hyF, hst, hnt, by simp only [n_put, hn], by simp only [get_put, ↓reduceIte, Nat.reduceEqDiff, h0], by simp only [get_put, ↓reduceIte, Nat.reduceEqDiff, h2], by simp only [get_put, ↓reduceIte, Nat.reduceEqDiff, h4], by simp only [get_put, ↓reduceIte, Nat.reduceEqDiff, h5], by simp only [get_put, ↓reduceIte, Nat.reduceEqDiff, h6], by simp only [get_put, ↓reduceIte]; rfl⟩
  clear hn h0 h2 h4 h5 h6 f hr hc hst hnt
  rintro z f t ⟨rfl, y, hr, hc, hy, hyF, hst, hn, h2, h4, h5, h6⟩
  have lall := hc.loadAll (P := Try.prog) agCode (by rw [codeV_length]; exact szCode) (c := 18) (by rw [codeV_length])
  have hmz : (if sumC C = 32768 then true else if sumC C < 32768 then decide (((manyC C : Nat) : Int) ≤ 1) else false) = decide (mayC C) := by
    by_cases c1 : sumC C = 32768
    · rw [if_pos c1]; exact (decide_eq_true (.inl c1)).symm
    · rw [if_neg c1]
      by_cases c2 : sumC C < 32768
      · rw [if_pos c2]
        exact decide_eq_decide.2 ⟨fun h => .inr ⟨c2, by omega⟩, fun h => by rcases h with h | h <;> omega⟩
      · rw [if_neg c2]; exact (decide_eq_false (fun h => by rcases h with h | h <;> omega)).symm
  have fin : ∀ (t' : ASt) (b : Bool), Thing t' j2 (codeV C y) → t'.next = t.next → (∀ i, i ≠ j2 → t'.heap.get i = t.heap.get i) → b = decide (mayC C) → MadeR s C (.tuple #[.agg (codeV C y).toArray, .bool b]) t' := fun t' b h1 h2 h3 h4 => by
    subst h4
    exact ⟨y, rfl, hy.ofPut h2 h3 (fun e => by have := hyF _ e; omega), fun i hi => by have := hyF i hi; omega, hst.trans (Stay.ofPut h2 h3 (by omega))⟩
  by_cases c1 : sumC C = 32768
  · have d1 : ((sumC C : Nat) : Int) = 32768 := by omega
    rw [if_pos c1] at hmz
    simp (config := { maxSteps := 1000000, implicitDefEqProofs := false }) (disch := omega) only [allW, allR, Nat.reduceLT, Nat.reduceEqDiff, ↓reduceIte, undef, hn, h2, h4, h5, lall, eq_true d1]
    refine wstep_storeAll szCode (by decide) hr (codeV_length _ _) rfl (codeV_length _ _) (codeV_ok C hy.sees.okCell) ?_
    intro t2 hr2 hn2 hs2
    have lall2 := hr2.loadAll (P := Try.prog) agCode (by rw [codeV_length]; exact szCode) (c := 18) (by rw [codeV_length])
    simp (config := { maxSteps := 1000000, implicitDefEqProofs := false }) (disch := omega) only [allW, wfn_ret, oneOf, Nat.reduceLT, Nat.reduceEqDiff, ↓reduceIte, undef, hn, h2, resultsA_cell, lall2, Try.results66]
    exact fin t2 true hr2 hn2 hs2 hmz
  have d1 : ¬ ((sumC C : Nat) : Int) = 32768 := by omega
  rw [if_neg c1] at hmz
  by_cases c2 : sumC C < 32768
  · have d2 : ((sumC C : Nat) : Int) < 32768 := by omega
    rw [if_pos c2] at hmz
    simp (config := { maxSteps := 1000000, implicitDefEqProofs := false }) (disch := omega) only [allW, allR, Nat.reduceLT, Nat.reduceEqDiff, ↓reduceIte, hn, h2, h4, h5, h6, lall, eq_false d1, eq_true d2]
    refine wstep_storeAll szCode (by decide) hr (codeV_length _ _) rfl (codeV_length _ _) (codeV_ok C hy.sees.okCell) ?_
    intro t2 hr2 hn2 hs2
    have lall2 := hr2.loadAll (P := Try.prog) agCode (by rw [codeV_length]; exact szCode) (c := 18) (by rw [codeV_length])
    simp (config := { maxSteps := 1000000, implicitDefEqProofs := false }) (disch := omega) only [allW, wfn_ret, oneOf, Nat.reduceLT, Nat.reduceEqDiff, ↓reduceIte, undef, hn, h2, resultsA_cell, lall2, Try.results66]
    exact fin t2 _ hr2 hn2 hs2 hmz
  · have d2 : ¬ ((sumC C : Nat) : Int) < 32768 := by omega
    rw [if_neg c2] at hmz
    simp (config := { maxSteps := 1000000, implicitDefEqProofs := false }) (disch := omega) only [allW, allR, Nat.reduceLT, Nat.reduceEqDiff, ↓reduceIte, undef, hn, h2, h4, h5, lall, eq_false d1, eq_false d2]
    refine wstep_storeAll szCode (by decide) hr (codeV_length _ _) rfl (codeV_length _ _) (codeV_ok C hy.sees.okCell) ?_
    intro t2 hr2 hn2 hs2
    have lall2 := hr2.loadAll (P := Try.prog) agCode (by rw [codeV_length]; exact szCode) (c := 18) (by rw [codeV_length])
    simp (config := { maxSteps := 1000000, implicitDefEqProofs := false }) (disch := omega) only [allW, wfn_ret, oneOf, Nat.reduceLT, Nat.reduceEqDiff, ↓reduceIte, undef, hn, h2, resultsA_cell, lall2, Try.results66]
    exact fin t2 false hr2 hn2 hs2 hmz
theorem szArr2 : sizeB Try.prog 106 = some 2 := by kernel_rfl
theorem agArr2 : isAggB Try.prog 106 = some true := by kernel_rfl
theorem zArr2 : zeroB Try.prog 106 = some (.agg #[.int .i64 0, .int .i64 0]) := by kernel_rfl
theorem pArr2 : plainV (.agg #[.int .i64 0, .int .i64 0]) = true := rfl
theorem uArr2 : Try.prog.underlying 106 = some (.array 2 3) := Try.underlying106
theorem uRows : Try.prog.underlying 113 = some (.slice 106) := Try.underlying113
theorem rowsC_len : ∀ L : List (Nat × Nat), (∀ x ∈ L, x.1 ≤ 200) → (rowsC L).length ≤ 200 * L.length
  | [], _ => Nat.le_refl _
  | (a, b) :: r, h => by
    have h1 := h (a, b) (by simp)
    have h2 := rowsC_len r (fun x hx => h x (by simp [hx]))
    simp only [rowsC, List.length_append, List.length_replicate, List.length_cons]
    have h1 : a ≤ 200 := h1
    omega
/-- A slice of numbers, new. -/
def NatsR (s : ASt) (C : List Nat) (v : Value) (s' : ASt) : Prop := Own s' 1 v C.length (natsV C) ∧ Fresh s.next v ∧ Stay s.next s s'
set_option maxHeartbeats 8000000 in
theorem rows_any {lib : Prims} (hL : NoL lib) (s : ASt) (x : Value) (L : List (Nat × Nat)) (hx : Sees s 2 x L.length (rowsV L)) (hlen : L.length ≤ 10) (h15 : ∀ x ∈ L, x.1 ≤ 200) :
    Runs Try.prog lib 67 [x] s (NatsR s (rowsC L)) := by
  refine Runs.enter 24 Try.func67 rfl (hL _ rfl) rfl rfl ?_
  intro f hn hf
  have h0 : f.get 0 = x := hf 0
  clear hf
  simp (config := { maxSteps := 1000000, implicitDefEqProofs := false }) (disch := omega) only [allW, evalAll, Nat.reduceLT, Nat.reduceEqDiff, ↓reduceIte, hn, h0, hx.lenA uRows]
  refine Comes.loopOut (fun z f t => ∃ (i : Nat) (y : Value), z = L.length - i ∧ i ≤ L.length ∧ Own t 1 y (rowsC (L.take i)).length (natsV (rowsC (L.take i))) ∧ Fresh s.next y ∧ Stay s.next s t ∧ f.n = 24 ∧ f.get 3 = y ∧ f.get 6 = x ∧ f.get 7 = .int .i64 (L.length : Nat) ∧ f.get 8 = .int .i64 (i : Nat))
    (fun z f t => z = .exit 0 ∧ f.n = 24 ∧ ∃ y, f.get 3 = y ∧ NatsR s (rowsC L) y t)
    ⟨0, _, rfl, by omega, .nil, Fresh.nil _, Stay.refl _ _, by simp only [n_put, hn], by simp only [get_put, ↓reduceIte, Nat.reduceEqDiff], by simp only [get_put, ↓reduceIte, Nat.reduceEqDiff], by simp only [get_put, ↓reduceIte, Nat.reduceEqDiff], by simp only [get_put, ↓reduceIte]; rfl⟩ ?_ ?_
  · clear hn h0 f
    rintro Q hQ z f t ⟨i, y, rfl, hi, hy, hyF, hst, hn, h3, h6, h7, h8⟩
    have hxt := hx.keeps hst
    by_cases hic : i < L.length
    rotate_left
    · obtain rfl : i = L.length := by omega
      have d1 : ¬ ((L.length : Nat) : Int) < ((L.length : Nat) : Int) := by omega
      rw [List.take_length] at hy
      simp (config := { maxSteps := 1000000, implicitDefEqProofs := false }) (disch := omega) only [allW, Nat.reduceLT, ↓reduceIte, hn, h7, h8, eq_false d1]
      exact hQ _ _ _ ⟨rfl, by simp only [n_put, hn], y, by simp only [get_put, ↓reduceIte, Nat.reduceEqDiff, h3], hy, hyF, hst⟩
    have d1 : (i : Int) < ((L.length : Nat) : Int) := by omega
    have hi1 := hxt.indexAddr (P := Try.prog) (k := .i64) (x := (i : Int)) uRows szArr2 (by omega) (by omega)
    rw [Int.toNat_natCast] at hi1
    have k1 := hxt.loadAgg (P := Try.prog) agArr2 szArr2 hic
    rw [rowsV_at hic] at k1
    have hmem : L.getD i (0, 0) ∈ L := by rw [List.getD_eq_getElem?_getD, List.getElem?_eq_getElem hic]; exact List.getElem_mem hic
    have ha := h15 _ hmem
    have htk := rowsC_take hic
    have hlr := rowsC_len (L.take i) (fun x hx => h15 x (List.mem_of_mem_take hx))
    have hlt : (L.take i).length = i := by rw [List.length_take]; omega
    generalize hab : L.getD i (0, 0) = ab at k1 ha htk
    simp (config := { maxSteps := 1000000, implicitDefEqProofs := false }) (disch := omega) only [allW, Nat.reduceLT, Nat.reduceEqDiff, ↓reduceIte, hn, h6, h7, h8, eq_true d1, hi1, k1, zArr2, pArr2]
    refine wstep_newPtr ?_
    intro t1 he1 hst1 hnx1
    obtain ⟨je, hje⟩ : ∃ j, j = t.next := ⟨_, rfl⟩
    rw [← hje] at he1
    have hy1 := hy.keeps hst1
    simp (config := { maxSteps := 1000000, implicitDefEqProofs := false }) (disch := omega) only [allW, Nat.reduceLT, Nat.reduceEqDiff, ↓reduceIte, hn, ← hje]
    refine wstep_storeAll szArr2 (by decide) he1 rfl rfl rfl rfl ?_
    intro t2 he2 hn2 hs2
    have hy2 := hy1.ofPut hn2 hs2 (fun e => by have := hy.idlt _ e; omega)
    have he2 : Thing t2 je [.int .i64 (ab.1 : Nat), .int .i64 (ab.2 : Nat)] := he2
    have hst2 : Stay s.next s t2 := (hst.trans (hst1.weaken (by have := hst.next; omega))).trans (Stay.ofPut hn2 hs2 (by have := hst.next; omega))
    have w0 := he2.load (P := Try.prog) agInt (off := 0) (c := 3) rfl (by simp)
    have w1 := he2.load (P := Try.prog) agInt (off := 1) (c := 3) rfl (by simp)
    have i0 := arrAt (P := Try.prog) uArr2 szInt je 0 3 (x := 0) (by omega) (by omega) .i64
    have i1 := arrAt (P := Try.prog) uArr2 szInt je 0 3 (x := 1) (by omega) (by omega) .i64
    have i0 : indexAddrA Try.prog 106 (.pointer (some ⟨je, 0, some 3⟩)) (.int .i64 0) = some (.pointer (some ⟨je, 0, some 3⟩)) := i0
    have i1 : indexAddrA Try.prog 106 (.pointer (some ⟨je, 0, some 3⟩)) (.int .i64 1) = some (.pointer (some ⟨je, 1, some 3⟩)) := i1
    simp (config := { maxSteps := 1000000, implicitDefEqProofs := false }) (disch := omega) only [allW, allR, Nat.reduceLT, Nat.reduceAdd, ↓reduceIte, hn, List.length_cons, List.length_nil, i0, w0]
    refine Comes.loopOut (fun z f t' => ∃ (j : Nat) (y : Value), z = ab.1 - j ∧ j ≤ ab.1 ∧ Own t' 1 y (rowsC (L.take i) ++ List.replicate j ab.2).length (natsV (rowsC (L.take i) ++ List.replicate j ab.2)) ∧ Fresh s.next y ∧ (∀ q, idOf y = some q → q ≠ je) ∧ Thing t' je [.int .i64 (ab.1 : Nat), .int .i64 (ab.2 : Nat)] ∧ Stay s.next s t' ∧ je < t'.next ∧ f.n = 24 ∧ f.get 3 = y ∧ f.get 5 = .pointer (some ⟨je, 0, some 3⟩) ∧ f.get 6 = x ∧ f.get 7 = .int .i64 (L.length : Nat) ∧ f.get 8 = .int .i64 (i : Nat) ∧ f.get 13 = .int .i64 (ab.1 : Nat) ∧ f.get 14 = .int .i64 (j : Nat))
      (fun z f t' => z = .exit 2 ∧ ∃ (y : Value), Own t' 1 y (rowsC (L.take (i + 1))).length (natsV (rowsC (L.take (i + 1)))) ∧ Fresh s.next y ∧ Stay s.next s t' ∧ f.n = 24 ∧ f.get 3 = y ∧ f.get 6 = x ∧ f.get 7 = .int .i64 (L.length : Nat) ∧ f.get 8 = .int .i64 (i : Nat))
      ⟨0, y, rfl, by omega, by simpa using hy2, hyF, fun q hq => by have := hy.idlt q hq; omega, he2, hst2, he2.lt, by simp only [n_put, hn], by simp only [get_put, ↓reduceIte, Nat.reduceEqDiff, h3], by simp only [get_put, ↓reduceIte, Nat.reduceEqDiff], by simp only [get_put, ↓reduceIte, Nat.reduceEqDiff, h6], by simp only [get_put, ↓reduceIte, Nat.reduceEqDiff, h7], by simp only [get_put, ↓reduceIte, Nat.reduceEqDiff, h8], by simp only [get_put, ↓reduceIte, Nat.reduceEqDiff], by simp only [get_put, ↓reduceIte]; rfl⟩ ?_ ?_
    · clear hn h3 h6 h7 h8 f
      rintro Q2 hQ2 z f t' ⟨j, y, rfl, hj, hy, hyF, hyj, he, hst, hjl, hn, h3, h5, h6, h7, h8, h13, h14⟩
      by_cases hja : j < ab.1
      rotate_left
      · obtain rfl : j = ab.1 := by omega
        have d2 : ¬ ((ab.1 : Nat) : Int) < ((ab.1 : Nat) : Int) := by omega
        rw [← htk] at hy
        simp (config := { maxSteps := 1000000, implicitDefEqProofs := false }) (disch := omega) only [allW, allR, Nat.reduceLT, ↓reduceIte, hn, h13, h14, eq_false d2]
        exact hQ2 _ _ _ ⟨rfl, y, hy, hyF, hst, by simp only [n_put, hn], by simp only [get_put, ↓reduceIte, Nat.reduceEqDiff, h3], by simp only [get_put, ↓reduceIte, Nat.reduceEqDiff, h6], by simp only [get_put, ↓reduceIte, Nat.reduceEqDiff, h7], by simp only [get_put, ↓reduceIte, Nat.reduceEqDiff, h8]⟩
      have d2 : (j : Int) < ((ab.1 : Nat) : Int) := by omega
      have w1 := he.load (P := Try.prog) agInt (off := 1) (c := 3) rfl (by simp)
      have hl3 : (rowsC (L.take i) ++ List.replicate j ab.2).length ≤ 3000 := by rw [List.length_append, List.length_replicate]; omega
      simp (config := { maxSteps := 1000000, implicitDefEqProofs := false }) (disch := omega) only [allW, allR, partsA, Nat.reduceLT, Nat.reduceEqDiff, ↓reduceIte, hn, h3, h5, h13, h14, eq_true d2, i1, w1, build1 uIntsF szInt zIntF]
      refine wstep_append_lit uIntsF szInt byIntF zIntF rfl hy (by simp only [get_put, ↓reduceIte, Nat.reduceEqDiff]) (by decide) (by simp only [n_put, hn]; decide) (by simp only [n_put, hn]; decide) (by rfl) (by decide) rfl (by omega) (by omega) hyF hst.next ?_
      intro bs y2 t6 hy2 hF2 hst2 ht2 hid2
      have e6 : natsV (rowsC (L.take i) ++ List.replicate j ab.2) ++ [Value.int .i64 (ab.2 : Nat)] = natsV (rowsC (L.take i) ++ List.replicate (j + 1) ab.2) := by
        rw [List.replicate_succ', ← List.append_assoc]
        exact natsV_app _ [ab.2]
      have e7 : (rowsC (L.take i) ++ List.replicate j ab.2).length + 1 = (rowsC (L.take i) ++ List.replicate (j + 1) ab.2).length := by
        simp only [List.length_append, List.length_replicate]; omega
      rw [e6, e7] at hy2
      simp (config := { maxSteps := 1000000, implicitDefEqProofs := false }) (disch := omega) only [allW, Nat.reduceLT, Nat.reduceEqDiff, ↓reduceIte, hn, h14, wrapI]
      have hn6 := ht2.next
      exact wround_next (ab.1 - (j + 1)) (by omega) ⟨j + 1, y2, rfl, by omega, hy2, hF2, fun q hq => by
        rcases hid2 with e | ⟨w, e, hw⟩
        · exact hyj q (by rw [← e]; exact hq)
        · rw [e] at hq; injection hq with hq; omega, he.turns ht2 (fun e => hyj je e rfl), hst.trans (hst2.weaken (by have := hst.next; omega)), by omega, by simp only [n_put, hn], by simp only [get_put, ↓reduceIte, Nat.reduceEqDiff], by simp only [get_put, ↓reduceIte, Nat.reduceEqDiff, h5], by simp only [get_put, ↓reduceIte, Nat.reduceEqDiff, h6], by simp only [get_put, ↓reduceIte, Nat.reduceEqDiff, h7], by simp only [get_put, ↓reduceIte, Nat.reduceEqDiff, h8], by simp only [get_put, ↓reduceIte, Nat.reduceEqDiff, h13], by simp only [get_put, ↓reduceIte]; rfl⟩
    clear hn h3 h6 h7 h8 f
    rintro z f t' ⟨rfl, y, hy, hyF, hst, hn, h3, h6, h7, h8⟩
    simp (config := { maxSteps := 1000000, implicitDefEqProofs := false }) (disch := omega) only [allW, Nat.reduceLT, ↓reduceIte, hn, h8, wrapI]
    exact wround_next (L.length - (i + 1)) (by omega) ⟨i + 1, y, rfl, by omega, hy, hyF, hst, by simp only [n_put, hn], by simp only [get_put, ↓reduceIte, Nat.reduceEqDiff, h3], by simp only [get_put, ↓reduceIte, Nat.reduceEqDiff, h6], by simp only [get_put, ↓reduceIte, Nat.reduceEqDiff, h7], by simp only [get_put, ↓reduceIte]; rfl⟩
  clear hn h0 f
  rintro z f t ⟨rfl, hn, y, h3, hR⟩
  simp (config := { maxSteps := 1000000, implicitDefEqProofs := false }) (disch := omega) only [allW, wfn_ret, oneOf, Nat.reduceLT, ↓reduceIte, hn, h3, Try.results67]
  exact hR
theorem fixed_rows : rowsC [(144, 8), (112, 9), (24, 7), (8, 8)] = fixedL := by decide +kernel
theorem fixed_rowsD : rowsC [(32, 5)] = fixedD := by decide +kernel
theorem bPair (a b : Int) : buildA Try.prog 106 [(0, .int .i64 a), (1, .int .i64 b)] = some (.agg #[.int .i64 a, .int .i64 b]) := by
  unfold buildA; rw [uArr2, zArr2]
  have c1 : ∀ a : Int, (Value.int .i64 a).cells.toList = [.int .i64 a] := fun _ => rfl
  simp only [fillA, c1]
  simp [szInt, plainV, plain1, cells_agg, setAt]
theorem bRows4 (s : ASt) : buildSliceA Try.prog s 113 4 [(0, .agg #[.int .i64 144, .int .i64 8]), (1, .agg #[.int .i64 112, .int .i64 9]), (2, .agg #[.int .i64 24, .int .i64 7]), (3, .agg #[.int .i64 8, .int .i64 8])] = newSlice s (rowsV [(144, 8), (112, 9), (24, 7), (8, 8)]) 4 2 := by
  unfold buildSliceA; rw [uRows]; simp only [szArr2, zArr2]; rfl
theorem bRows1 (s : ASt) : buildSliceA Try.prog s 113 1 [(0, .agg #[.int .i64 32, .int .i64 5])] = newSlice s (rowsV [(32, 5)]) 1 2 := by
  unfold buildSliceA; rw [uRows]; simp only [szArr2, zArr2]; rfl
/-- The fixed codes, new. -/
def FixR (s : ASt) (v : Value) (s' : ASt) : Prop := ∃ sa sb, v = .tuple #[.agg (codeV fixedL sa).toArray, .agg (codeV fixedD sb).toArray] ∧ Own s' 1 sa (flatA fixedL 15).length (natsV (flatA fixedL 15)) ∧ Own s' 1 sb (flatA fixedD 15).length (natsV (flatA fixedD 15)) ∧ Fresh s.next sa ∧ Fresh s.next sb ∧ Stay s.next s s'
set_option maxHeartbeats 8000000 in
theorem fixedP_any {lib : Prims} (hL : NoL lib) (s : ASt) : Runs Try.prog lib 54 [] s (FixR s) := by
  refine Runs.enter 25 Try.func54 rfl (hL _ rfl) rfl rfl ?_
  intro f hn hf
  clear hf
  simp (config := { maxSteps := 1000000, implicitDefEqProofs := false }) (disch := omega) only [allW, ↓reduceIte, zCode, pCode]
  refine wstep_newPtr ?_
  intro s1 hp1 hst1 hnx1
  obtain ⟨j0, hj0⟩ : ∃ j, j = s.next := ⟨_, rfl⟩
  rw [← hj0] at hp1
  simp (config := { maxSteps := 1000000, implicitDefEqProofs := false }) (disch := omega) only [allW, Nat.reduceLT, Nat.reduceAdd, ↓reduceIte, hn, ← hj0, codeV_length, zCode, pCode]
  refine wstep_newPtr ?_
  intro s2 hq2 hst2 hnx2
  obtain ⟨j1, hj1⟩ : ∃ j, j = s1.next := ⟨_, rfl⟩
  rw [← hj1] at hq2
  have hp2 := hp1.keeps hst2
  have k2 : Stay s.next s s2 := hst1.trans (hst2.weaken (by omega))
  simp (config := { maxSteps := 1000000, implicitDefEqProofs := false }) (disch := omega) only [allW, partsA, Nat.reduceLT, Nat.reduceEqDiff, Nat.reduceAdd, ↓reduceIte, hn, ← hj1, codeV_length, bPair, bRows4]
  refine wstep_newSlice (by rfl) ?_
  intro yr s3 hyr hyrF k3
  simp (config := { maxSteps := 1000000, implicitDefEqProofs := false }) (disch := omega) only [allW, allR, evalAll, Nat.reduceLT, ↓reduceIte, hn]
  refine (rows_any hL s3 yr [(144, 8), (112, 9), (24, 7), (8, 8)] hyr.sees (by decide) (by decide)).mono ?_
  rintro ya s4 ⟨hya, hyaF, k4⟩
  rw [fixed_rows] at hya
  simp (config := { maxSteps := 1000000, implicitDefEqProofs := false }) (disch := omega) only [allW, allR, evalAll, Nat.reduceLT, ↓reduceIte, hn]
  refine (made_any hL s4 ya fixedL hya.sees (by rw [show fixedL.length = 288 from fixL_length]; decide) fixedL_le).mono ?_
  rintro _ s5 ⟨sa, rfl, hsa, hsaF, k5⟩
  have n3 := k3.next
  have n4 := k4.next
  have n5 := k5.next
  have k35 : Stay s2.next s2 s5 := (k3.trans (k4.weaken n3)).trans (k5.weaken (by omega))
  simp (config := { maxSteps := 1000000, implicitDefEqProofs := false }) (disch := omega) only [allW, Nat.reduceLT, Nat.reduceEqDiff, ↓reduceIte, hn, ext20, ext21, zCode, pCode]
  refine wstep_newPtr ?_
  intro s6 hc6 hst6 hnx6
  obtain ⟨j2, hj2⟩ : ∃ j, j = s5.next := ⟨_, rfl⟩
  rw [← hj2] at hc6
  have hsa6 := hsa.keeps hst6
  simp (config := { maxSteps := 1000000, implicitDefEqProofs := false }) (disch := omega) only [allW, Nat.reduceLT, Nat.reduceEqDiff, Nat.reduceAdd, ↓reduceIte, hn, ← hj2, codeV_length]
  refine wstep_storeAll szCode (by decide) hc6 (codeV_length _ _) rfl (codeV_length _ _) (codeV_ok _ hsa.sees.okCell) ?_
  intro s7 hc7 hn7 hs7
  have hsa7 := hsa6.ofPut hn7 hs7 (fun e => by have := hsa.idlt _ e; omega)
  have k7 : Stay s2.next s2 s7 := (k35.trans (hst6.weaken (by omega))).trans (Stay.ofPut hn7 hs7 (by omega))
  simp (config := { maxSteps := 1000000, implicitDefEqProofs := false }) (disch := omega) only [allW, partsA, Nat.reduceLT, Nat.reduceEqDiff, ↓reduceIte, hn, bPair, bRows1]
  refine wstep_newSlice (by rfl) ?_
  intro yr2 s8 hyr2 hyrF2 k8
  simp (config := { maxSteps := 1000000, implicitDefEqProofs := false }) (disch := omega) only [allW, allR, evalAll, Nat.reduceLT, ↓reduceIte, hn]
  refine (rows_any hL s8 yr2 [(32, 5)] hyr2.sees (by decide) (by decide)).mono ?_
  rintro yb s9 ⟨hyb, hybF, k9⟩
  rw [fixed_rowsD] at hyb
  simp (config := { maxSteps := 1000000, implicitDefEqProofs := false }) (disch := omega) only [allW, allR, evalAll, Nat.reduceLT, ↓reduceIte, hn]
  refine (made_any hL s9 yb fixedD hyb.sees (by decide) fixedD_le).mono ?_
  rintro _ s10 ⟨sb, rfl, hsb, hsbF, k10⟩
  have n8 := k8.next
  have n9 := k9.next
  have n10 := k10.next
  have k810 : Stay s7.next s7 s10 := (k8.trans (k9.weaken n8)).trans (k10.weaken (by omega))
  have hc10 := hc7.keeps k810
  have hsa10 := hsa7.keeps k810
  simp (config := { maxSteps := 1000000, implicitDefEqProofs := false }) (disch := omega) only [allW, Nat.reduceLT, Nat.reduceEqDiff, ↓reduceIte, hn, ext20, ext21, zCode, pCode]
  refine wstep_newPtr ?_
  intro s11 hd11 hst11 hnx11
  obtain ⟨j4, hj4⟩ : ∃ j, j = s10.next := ⟨_, rfl⟩
  rw [← hj4] at hd11
  have hsb11 := hsb.keeps hst11
  have hsa11 := hsa10.keeps hst11
  have hc11 := hc10.keeps hst11
  simp (config := { maxSteps := 1000000, implicitDefEqProofs := false }) (disch := omega) only [allW, Nat.reduceLT, Nat.reduceEqDiff, Nat.reduceAdd, ↓reduceIte, hn, ← hj4, codeV_length]
  refine wstep_storeAll szCode (by decide) hd11 (codeV_length _ _) rfl (codeV_length _ _) (codeV_ok _ hsb.sees.okCell) ?_
  intro s12 hd12 hn12 hs12
  have hsb12 := hsb11.ofPut hn12 hs12 (fun e => by have := hsb.idlt _ e; omega)
  have hsa12 := hsa11.ofPut hn12 hs12 (fun e => by have := hsa10.idlt _ e; omega)
  have hc12 := hc11.ofPut hn12 hs12 (by have := hc10.lt; omega)
  have kk : Stay s2.next s2 s12 := ((k7.trans (k810.weaken (by have := k7.next; omega))).trans (hst11.weaken (by have := k7.next; omega))).trans (Stay.ofPut hn12 hs12 (by have := k7.next; omega))
  have hp12 := hp2.keeps kk
  have hq12 := hq2.keeps kk
  have lc := hc12.loadAll (P := Try.prog) agCode (by rw [codeV_length]; exact szCode) (c := 18) (by rw [codeV_length])
  have ld := hd12.loadAll (P := Try.prog) agCode (by rw [codeV_length]; exact szCode) (c := 18) (by rw [codeV_length])
  simp (config := { maxSteps := 1000000, implicitDefEqProofs := false }) (disch := omega) only [allW, Nat.reduceLT, Nat.reduceEqDiff, ↓reduceIte, hn]
  obtain ⟨A, hA⟩ : ∃ A : Nat → Bool, A = fun j => decide (j < s12.next ∧ j ≠ j0 ∧ j ≠ j1) := ⟨_, rfl⟩
  have hAl : ∀ j, A j = true → j < s12.next := by
    intro j h
    rw [hA] at h
    exact (of_decide_eq_true h).1
  have hA0 : A j0 = false := by rw [hA]; exact decide_eq_false (fun h => h.2.1 rfl)
  have hA1 : A j1 = false := by rw [hA]; exact decide_eq_false (fun h => h.2.2 rfl)
  have hsq := Stay.spare s12 0
  have hnq : (spare s12 0).next = s12.next + 0 := spare_next _ _
  have hj2l := hc12.lt
  have hj4l := hd12.lt
  have l2 : ∀ k, LA.lowV A (some (.pointer (some ⟨j2, k, some 18⟩))) = true := fun k => LA.lowV_ptr (A := A) (i := j2) (by rw [hA]; exact decide_eq_true ⟨hj2l, by omega, by omega⟩)
  have l4 : ∀ k, LA.lowV A (some (.pointer (some ⟨j4, k, some 18⟩))) = true := fun k => LA.lowV_ptr (A := A) (i := j4) (by rw [hA]; exact decide_eq_true ⟨hj4l, by omega, by omega⟩)
  have ve : ∀ (C : List Nat) (v : Value) (n : Nat) (L : List Value), Own s12 1 v n L → valEq (.agg (codeV C v).toArray) (.agg (codeV C v).toArray) = true := fun C v n L h => valEq_code C h.sees
  have hcq := (hc12.keeps hsq).loadAll (P := Try.prog) agCode (by rw [codeV_length]; exact szCode) (c := 18) (by rw [codeV_length])
  have hdq := (hd12.keeps hsq).loadAll (P := Try.prog) agCode (by rw [codeV_length]; exact szCode) (c := 18) (by rw [codeV_length])
  refine LB.Drawn.looseK A hAl 2 0 (by kernel_rfl) (by kernel_rfl) ?_
  simp (config := { maxSteps := 1000000, implicitDefEqProofs := false }) (disch := omega) only [allW, allL, allB, Nat.reduceLT, Nat.reduceEqDiff, ↓reduceIte, hn, hcq, hdq, l2, l4, ve _ _ _ _ hsa12, ve _ _ _ _ hsb12]
  refine LB.sstep_storeAll szCode (by decide) (hp12.keeps hsq) (codeV_length _ _) rfl (codeV_length _ _) (codeV_ok _ hsa.sees.okCell) (fun _ => hA0) ?_
  intro t1 ht1 nt1 et1
  have hdq1 := ((hd12.keeps hsq).ofPut nt1 et1 (by omega)).loadAll (P := Try.prog) agCode (by rw [codeV_length]; exact szCode) (c := 18) (by rw [codeV_length])
  try simp (config := { maxSteps := 1000000, implicitDefEqProofs := false }) (disch := omega) only [allW, allB, Nat.add_one_sub_one, Nat.reduceLT, Nat.reduceEqDiff, ↓reduceIte, hn]
  refine LB.sstep_storeAll szCode (by decide) ((hq12.keeps hsq).ofPut nt1 et1 (by omega)) (codeV_length _ _) rfl (codeV_length _ _) (codeV_ok _ hsb.sees.okCell) (fun _ => hA1) ?_
  intro t2 ht2 nt2 et2
  have ht12 : Thing t2 j0 _ := ht1.ofPut nt2 et2 (by omega)
  have la := ht12.loadAll (P := Try.prog) agCode (by rw [List.toList_toArray, codeV_length]; exact szCode) (c := 18) (by rw [List.toList_toArray, codeV_length])
  have lb := ht2.loadAll (P := Try.prog) agCode (by rw [List.toList_toArray, codeV_length]; exact szCode) (c := 18) (by rw [List.toList_toArray, codeV_length])
  simp (config := { maxSteps := 1000000, implicitDefEqProofs := false }) (disch := omega) only [allW, allB, Nat.sub_self, oneOf, Nat.reduceLT, Nat.reduceEqDiff, ↓reduceIte, allW, wfn_ret, oneOf, Nat.reduceLT, Nat.reduceEqDiff, ↓reduceIte, hn, resultsA_cell, la, lb, Try.results54]
  have fin : ∀ y (n : Nat) (L : List Value), Own s12 1 y n L → (∀ i, idOf y = some i → j1 < i) → Own t2 1 y n L := fun y n L h1 h2 => ((h1.keeps hsq).ofPut nt1 et1 (fun e => by have := h2 _ e; omega)).ofPut nt2 et2 (fun e => by have := h2 _ e; omega)
  have k7n := k7.next
  exact ⟨sa, sb, rfl, fin _ _ _ hsa12 (fun i hi => by have := hsaF i hi; omega), fin _ _ _ hsb12 (fun i hi => by have := hsbF i hi; omega), fun i hi => by have := hsaF i hi; omega, fun i hi => by have := hsbF i hi; omega, (((k2.trans (kk.weaken (by omega))).trans (hsq.weaken (by have := kk.next; omega))).trans (Stay.ofPut nt1 et1 (by omega))).trans (Stay.ofPut nt2 et2 (by omega))⟩
end Go.Proofs.Ytnclklboogdoiaa
