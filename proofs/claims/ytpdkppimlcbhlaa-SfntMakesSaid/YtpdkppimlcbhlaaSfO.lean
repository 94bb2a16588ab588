/-
  Fonts in tables, the program: whether one is among a row.
-/
import Derived.Test.YtpdkppimlcbhlaaSfN
set_option linter.unusedSimpArgs false
set_option linter.unusedVariables false
set_option maxRecDepth 100000
namespace Go.Proofs.Ytpdkppimlcbhlaa
open Go.Cl Go.Cl.Sf
set_option maxHeartbeats 4000000 in
theorem indexI (g : Nat) (bs : List Value) (s : ASt) (x : Value) (l : List Int) (hx : Sees s 1 x l.length (intsZ l)) (hlen : l.length ≤ 100000000) (p : Int → Bool)
    (hp : ∀ s', Stay s.next s s' → ∀ w, Runs Try.prog libN g (.int .i64 w :: bs) s' fun v s'' => v = .bool (p w) ∧ Stay s'.next s' s'') :
    Runs Try.prog libN 41 [x, .func (.func g) #[] bs.toArray] s fun v s' => (∃ r : Int, v = .int .i64 r ∧ -1 ≤ r ∧ (0 ≤ r ↔ l.any p = true)) ∧ Stay s.next s s' := by
  refine Runs.enter 19 Try.func41 rfl rfl rfl rfl ?_
  intro f hn hf
  have h0 : f.get 0 = x := hf 0
  have h1 : f.get 1 = .func (.func g) #[] bs.toArray := hf 1
  clear hf
  simp (config := { maxSteps := 1000000, implicitDefEqProofs := false }) (disch := omega) only [allW, allR, oneOf, evalAll, partsA, optA, Nat.reduceLT, Nat.reduceLeDiff, Nat.reduceEqDiff, Nat.reduceAdd, ↓reduceIte, hn, h0, h1, hx.lenA Try.underlying30]
  refine Comes.loopAt (fun z f t => ∃ i : Nat, z = l.length - i ∧ i ≤ l.length ∧ (l.take i).any p = false ∧ Stay s.next s t ∧ f.n = 19 ∧ f.get 0 = x ∧ f.get 1 = .func (.func g) #[] bs.toArray ∧ f.get 7 = .int .i64 (l.length : Nat) ∧ f.get 8 = .int .i64 (i : Nat))
    ⟨0, rfl, by omega, rfl, Stay.refl _ _, by simp only [get_put, n_put, ↓reduceIte, Nat.reduceEqDiff, hn], by simp only [get_put, n_put, ↓reduceIte, Nat.reduceEqDiff, h0], by simp only [get_put, n_put, ↓reduceIte, Nat.reduceEqDiff, h1], by simp only [get_put, n_put, ↓reduceIte, Nat.reduceEqDiff], by simp only [get_put, n_put, ↓reduceIte, Nat.reduceEqDiff]; rfl⟩ ?_
  clear hn h0 h1 f
  rintro z f t ⟨i, rfl, hi, hno, hst, hn, h0, h1, h7, h8⟩
  by_cases hlt : i < l.length
  rotate_left
  · obtain rfl : i = l.length := by omega
    have d : ¬ (l.length : Int) < (l.length : Int) := by omega
    rw [List.take_length] at hno
    simp (config := { maxSteps := 1000000, implicitDefEqProofs := false }) (disch := omega) only [allW, allR, wfn_ret, wfn_normal, oneOf, evalAll, partsA, optA, Nat.reduceLT, Nat.reduceLeDiff, Nat.reduceEqDiff, Nat.reduceAdd, ↓reduceIte, hn, h0, h1, h7, h8, eq_false d, Try.results41]
    exact ⟨⟨-1, rfl, by omega, by rw [hno]; simp⟩, hst⟩
  have d : (i : Int) < (l.length : Int) := by omega
  have hxt := hx.keeps hst
  have hix := hxt.indexAddr (P := Try.prog) (k := .i64) (x := (i : Int)) Try.underlying30 szInt (by omega) (by omega)
  rw [Int.toNat_natCast] at hix
  have hld := hxt.load1 (P := Try.prog) agInt hlt
  rw [intsZ_getD hlt] at hld
  simp (config := { maxSteps := 1000000, implicitDefEqProofs := false }) (disch := omega) only [allW, allR, oneOf, evalAll, partsA, optA, Nat.reduceLT, Nat.reduceLeDiff, Nat.reduceEqDiff, Nat.reduceAdd, ↓reduceIte, hn, h0, h1, h7, h8, eq_true d, hix, hld]
  have htk : l.take (i + 1) = l.take i ++ [l.getD i 0] := by
    rw [List.take_add_one, List.getElem?_eq_getElem hlt]
    simp [List.getD, List.getElem?_eq_getElem hlt]
  refine (hp t hst (l.getD i 0)).mono ?_
  rintro _ t1 ⟨rfl, hst1⟩
  have hst' := hst.trans (hst1.weaken hst.next)
  cases hpw : p (l.getD i 0) with
  | true =>
    simp (config := { maxSteps := 1000000, implicitDefEqProofs := false }) (disch := omega) only [allW, allR, wfn_ret, wfn_normal, oneOf, evalAll, partsA, optA, Nat.reduceLT, Nat.reduceLeDiff, Nat.reduceEqDiff, Nat.reduceAdd, ↓reduceIte, hn, h0, h1, h7, h8, Try.results41]
    refine ⟨⟨(i : Int), rfl, by omega, ?_⟩, hst'⟩
    have : l.any p = true := by
      rw [List.any_eq_true]
      exact ⟨l.getD i 0, getDI_mem hlt, hpw⟩
    rw [this]; simp
  | false =>
    simp (config := { maxSteps := 1000000, implicitDefEqProofs := false }) (disch := omega) only [allW, allR, oneOf, evalAll, partsA, optA, Nat.reduceLT, Nat.reduceLeDiff, Nat.reduceEqDiff, Nat.reduceAdd, ↓reduceIte, hn, h0, h1, h7, h8, wrapI]
    exact wround_next (l.length - (i + 1)) (by omega) ⟨i + 1, rfl, by omega, by rw [htk, List.any_append, hno, List.any_cons, hpw]; rfl, hst', by simp only [get_put, n_put, ↓reduceIte, Nat.reduceEqDiff, hn], by simp only [get_put, n_put, ↓reduceIte, Nat.reduceEqDiff, h0], by simp only [get_put, n_put, ↓reduceIte, Nat.reduceEqDiff, h1], by simp only [get_put, n_put, ↓reduceIte, Nat.reduceEqDiff, h7], by simp only [get_put, n_put, ↓reduceIte, Nat.reduceEqDiff]; rfl⟩
theorem containsI (g : Nat) (bs : List Value) (s : ASt) (x : Value) (l : List Int) (hx : Sees s 1 x l.length (intsZ l)) (hlen : l.length ≤ 100000000) (p : Int → Bool)
    (hp : ∀ s', Stay s.next s s' → ∀ w, Runs Try.prog libN g (.int .i64 w :: bs) s' fun v s'' => v = .bool (p w) ∧ Stay s'.next s' s'') :
    Runs Try.prog libN 21 [x, .func (.func g) #[] bs.toArray] s fun v s' => v = .bool (l.any p) ∧ Stay s.next s s' := by
  refine Runs.enter 9 Try.func21 rfl rfl rfl rfl ?_
  intro f hn hf
  have h0 : f.get 0 = x := hf 0
  have h1 : f.get 1 = .func (.func g) #[] bs.toArray := hf 1
  clear hf
  simp (config := { maxSteps := 1000000, implicitDefEqProofs := false }) (disch := omega) only [allW, allR, oneOf, evalAll, partsA, optA, Nat.reduceLT, Nat.reduceLeDiff, Nat.reduceEqDiff, Nat.reduceAdd, ↓reduceIte, hn, h0, h1]
  refine (indexI g bs s x l hx hlen p hp).mono ?_
  rintro _ s1 ⟨⟨r, rfl, hr, hri⟩, hst⟩
  by_cases c : 0 ≤ r
  · simp (config := { maxSteps := 1000000, implicitDefEqProofs := false }) (disch := omega) only [allW, allR, wfn_ret, wfn_normal, oneOf, evalAll, partsA, optA, Nat.reduceLT, Nat.reduceLeDiff, Nat.reduceEqDiff, Nat.reduceAdd, ↓reduceIte, hn, h0, h1, eq_true c, Try.results21]
    rw [hri.mp c]
    exact ⟨rfl, hst⟩
  · simp (config := { maxSteps := 1000000, implicitDefEqProofs := false }) (disch := omega) only [allW, allR, wfn_ret, wfn_normal, oneOf, evalAll, partsA, optA, Nat.reduceLT, Nat.reduceLeDiff, Nat.reduceEqDiff, Nat.reduceAdd, ↓reduceIte, hn, h0, h1, eq_false c, Try.results21]
    have : l.any p = false := by
      cases h : l.any p with
      | true => exact absurd (hri.mpr h) c
      | false => rfl
    rw [this]
    exact ⟨rfl, hst⟩
theorem mk1_any (s : ASt) (w : Int) :
    Runs Try.prog libN 22 [.int .i64 w] s fun v s' => v = .bool (decide (w < 0) || decide (65535 < w)) ∧ Stay s.next s s' := by
  refine Runs.enter 9 Try.func22 rfl rfl rfl rfl ?_
  intro f hn hf
  have h0 : f.get 0 = .int .i64 w := hf 0
  clear hf
  by_cases c : w < 0
  · simp (config := { maxSteps := 1000000, implicitDefEqProofs := false }) (disch := omega) only [allW, allR, wfn_ret, wfn_normal, oneOf, evalAll, partsA, optA, Nat.reduceLT, Nat.reduceLeDiff, Nat.reduceEqDiff, Nat.reduceAdd, ↓reduceIte, undef, hn, h0, eq_true c, Try.results22]
    simp [c]; exact Stay.refl _ _
  · by_cases c2 : 65535 < w
    · simp (config := { maxSteps := 1000000, implicitDefEqProofs := false }) (disch := omega) only [allW, allR, wfn_ret, wfn_normal, oneOf, evalAll, partsA, optA, Nat.reduceLT, Nat.reduceLeDiff, Nat.reduceEqDiff, Nat.reduceAdd, ↓reduceIte, undef, hn, h0, eq_false c, eq_true c2, Try.results22]
      simp [c, c2]; exact Stay.refl _ _
    · simp (config := { maxSteps := 1000000, implicitDefEqProofs := false }) (disch := omega) only [allW, allR, wfn_ret, wfn_normal, oneOf, evalAll, partsA, optA, Nat.reduceLT, Nat.reduceLeDiff, Nat.reduceEqDiff, Nat.reduceAdd, ↓reduceIte, undef, hn, h0, eq_false c, eq_false c2, Try.results22]
      simp [c, c2]; exact Stay.refl _ _
theorem mk2_any (s : ASt) (g : Int) (n j : Nat) (hj : Thing s j [.int .i64 (n : Nat)]) :
    Runs Try.prog libN 23 [.int .i64 g, .pointer (some ⟨j, 0, some 2⟩)] s fun v s' => v = .bool (decide (g < 0) || decide (((min n 256 : Nat) : Int) ≤ g)) ∧ Stay s.next s s' := by
  refine Runs.enter 12 Try.func23 rfl rfl rfl rfl ?_
  intro f hn hf
  have h0 : f.get 0 = .int .i64 g := hf 0
  have h1 : f.get 1 = .pointer (some ⟨j, 0, some 2⟩) := hf 1
  clear hf
  have l0 := hj.load (P := Try.prog) agInt (off := 0) (c := 2) rfl (by simp)
  by_cases c : g < 0
  · simp (config := { maxSteps := 1000000, implicitDefEqProofs := false }) (disch := omega) only [allW, allR, wfn_ret, wfn_normal, oneOf, evalAll, partsA, optA, Nat.reduceLT, Nat.reduceLeDiff, Nat.reduceEqDiff, Nat.reduceAdd, ↓reduceIte, undef, hn, h0, h1, eq_true c, Try.results23]
    simp [c]; exact Stay.refl _ _
  · by_cases c3 : (256 : Int) < (n : Int)
    · have e : ((min n 256 : Nat) : Int) = 256 := by omega
      by_cases c2 : (256 : Int) ≤ g
      · simp (config := { maxSteps := 1000000, implicitDefEqProofs := false }) (disch := omega) only [allW, allR, wfn_ret, wfn_normal, oneOf, evalAll, partsA, optA, Nat.reduceLT, Nat.reduceLeDiff, Nat.reduceEqDiff, Nat.reduceAdd, ↓reduceIte, undef, hn, h0, h1, eq_false c, l0, eq_true c3, eq_true c2, Try.results23]
        rw [e]; simp [c, c2]; exact Stay.refl _ _
      · simp (config := { maxSteps := 1000000, implicitDefEqProofs := false }) (disch := omega) only [allW, allR, wfn_ret, wfn_normal, oneOf, evalAll, partsA, optA, Nat.reduceLT, Nat.reduceLeDiff, Nat.reduceEqDiff, Nat.reduceAdd, ↓reduceIte, undef, hn, h0, h1, eq_false c, l0, eq_true c3, eq_false c2, Try.results23]
        rw [e]; simp [c, c2]; exact Stay.refl _ _
    · have e : ((min n 256 : Nat) : Int) = (n : Int) := by omega
      by_cases c2 : (n : Int) ≤ g
      · simp (config := { maxSteps := 1000000, implicitDefEqProofs := false }) (disch := omega) only [allW, allR, wfn_ret, wfn_normal, oneOf, evalAll, partsA, optA, Nat.reduceLT, Nat.reduceLeDiff, Nat.reduceEqDiff, Nat.reduceAdd, ↓reduceIte, undef, hn, h0, h1, eq_false c, l0, eq_false c3, eq_true c2, Try.results23]
        rw [e]; simp [c, c2]; exact Stay.refl _ _
      · simp (config := { maxSteps := 1000000, implicitDefEqProofs := false }) (disch := omega) only [allW, allR, wfn_ret, wfn_normal, oneOf, evalAll, partsA, optA, Nat.reduceLT, Nat.reduceLeDiff, Nat.reduceEqDiff, Nat.reduceAdd, ↓reduceIte, undef, hn, h0, h1, eq_false c, l0, eq_false c3, eq_false c2, Try.results23]
        rw [e]; simp [c, c2]; exact Stay.refl _ _
end Go.Proofs.Ytpdkppimlcbhlaa
