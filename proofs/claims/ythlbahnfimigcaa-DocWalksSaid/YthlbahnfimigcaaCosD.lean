/-
  Objects: bytes.Equal, slices.EqualFunc.
-/
import Derived.Test.YthlbahnfimigcaaCosC
set_option linter.unusedSimpArgs false
set_option linter.unusedVariables false
namespace Go.Proofs.Ythlbahnfimigcaa
open Go.Cl
theorem equal_any {lib : Prims} (hl : lib.at 70 = none) (s : ASt) (x y : Value) (a b : List UInt8) (hx : Sees s 1 x a.length (ofBytes a)) (hy : Sees s 1 y b.length (ofBytes b)) :
    Runs Try.prog lib 70 [x, y] s fun v s' => v = .bool (decide (a = b)) ∧ s' = s := by
  refine Runs.enter 10 Try.func70 rfl hl rfl rfl ?_
  intro f hn hf
  have h0 : f.get 0 = x := hf 0
  have h1 : f.get 1 = y := hf 1
  clear hf
  simp (config := { maxSteps := 1000000, implicitDefEqProofs := false }) (disch := omega) only [allW, wfn_ret, oneOf, Nat.reduceLT, Nat.reduceEqDiff, ↓reduceIte, hn, h0, h1, hx.str Try.underlying22 Try.underlying9 Try.underlying5, hy.str Try.underlying22 Try.underlying9 Try.underlying5, str_eql, Try.results70]
/-- Two rows are alike. -/
def Alike (s : ASt) (n m : Nat) (Pr : Nat → Prop) (v : Value) (s' : ASt) : Prop := Answers (n = m ∧ ∀ i, i < n → Pr i) v ∧ Stay s.next s s'
set_option maxHeartbeats 4000000 in
theorem eqfO {lib : Prims} (hl : lib.at 71 = none) (g : Nat) (s : ASt) (x y : Value) (n m : Nat) (lx ly : List Value) (hx : Sees s 5 x n lx) (hy : Sees s 5 y m ly) (hnn : n ≤ 140737488351232) (hm : m ≤ 140737488351232) (Pr : Nat → Prop)
    (ox : ∀ i, i < n → ((lx.drop (i * 5)).take 5).all okCell = true) (oy : ∀ i, i < m → ((ly.drop (i * 5)).take 5).all okCell = true)
    (h : ∀ i, i < n → i < m → ∀ s' : ASt, Stay s.next s s' → Runs Try.prog lib g [.agg ((lx.drop (i * 5)).take 5).toArray, .agg ((ly.drop (i * 5)).take 5).toArray] s' fun v s'' => Answers (Pr i) v ∧ Stay s'.next s' s'') :
    Runs Try.prog lib 71 [x, y, .func (.func g) #[] #[]] s (Alike s n m Pr) := by
  refine Runs.enter 32 Try.func71 rfl hl rfl rfl ?_
  intro f hn hf
  have h0 : f.get 0 = x := hf 0
  have h1 : f.get 1 = y := hf 1
  have h2 : f.get 2 = .func (.func g) #[] #[] := hf 2
  clear hf
  by_cases cl : ((n : Nat) : Int) = ((m : Nat) : Int)
  rotate_left
  · simp (config := { maxSteps := 1000000, implicitDefEqProofs := false }) (disch := omega) only [allW, allR, wfn_ret, oneOf, evalAll, Nat.reduceLT, Nat.reduceEqDiff, ↓reduceIte, hn, h0, h1, hx.lenA Try.underlying23, hy.lenA Try.underlying23, eq_false cl, Try.results71]
    exact ⟨.no (fun h => by have := h.1; omega), Stay.refl _ _⟩
  obtain rfl : n = m := by omega
  simp (config := { maxSteps := 1000000, implicitDefEqProofs := false }) (disch := omega) only [allW, allR, evalAll, Nat.reduceLT, Nat.reduceEqDiff, ↓reduceIte, hn, h0, h1, hx.lenA Try.underlying23, hy.lenA Try.underlying23]
  refine Comes.loopOut (fun z f s' => ∃ i : Nat, z = n - i ∧ i ≤ n ∧ (∀ j, j < i → Pr j) ∧ Stay s.next s s' ∧ f.n = 32 ∧ f.get 1 = y ∧ f.get 2 = .func (.func g) #[] #[] ∧ f.get 15 = x ∧ f.get 16 = .int .i64 (n : Nat) ∧ f.get 17 = .int .i64 (i : Nat))
    (fun z f s' => (z = .ret ∧ Stay s.next s s' ∧ f.n = 32 ∧ f.get 6 = .bool false ∧ ¬ ∀ i, i < n → Pr i) ∨ (z = .exit 0 ∧ (∀ i, i < n → Pr i) ∧ Stay s.next s s' ∧ f.n = 32))
    ⟨0, rfl, by omega, fun j h => by omega, Stay.refl _ _, by simp only [n_put, hn], by simp only [get_put, ↓reduceIte, Nat.reduceEqDiff, h1], by simp only [get_put, ↓reduceIte, Nat.reduceEqDiff, h2], by simp only [get_put, ↓reduceIte, Nat.reduceEqDiff], by simp only [get_put, ↓reduceIte, Nat.reduceEqDiff], by simp only [get_put, ↓reduceIte]; rfl⟩ ?_ ?_
  · clear hn h0 h1 h2 f
    rintro Q hQ z f s2 ⟨i, rfl, hi, hP, hst, hn, h1, h2, h15, h16, h17⟩
    by_cases hlt : i < n
    rotate_left
    · obtain rfl : i = n := by omega
      have d1 : ¬ ((i : Nat) : Int) < ((i : Nat) : Int) := by omega
      simp (config := { maxSteps := 1000000, implicitDefEqProofs := false }) (disch := omega) only [allW, Nat.reduceLT, ↓reduceIte, hn, h16, h17, eq_false d1]
      exact hQ _ _ _ (.inr ⟨rfl, hP, hst, by simp only [n_put, hn]⟩)
    have d1 : ((i : Nat) : Int) < ((n : Nat) : Int) := by omega
    have hx2 := hx.keeps hst
    have hy2 := hy.keeps hst
    have hix := hx2.indexAddr (P := Try.prog) (k := .i64) (x := (i : Int)) Try.underlying23 szO (by omega) (by omega)
    have hiy := hy2.indexAddr (P := Try.prog) (k := .i64) (x := (i : Int)) Try.underlying23 szO (by omega) (by omega)
    rw [Int.toNat_natCast] at hix hiy
    have hld := hx2.loadAgg (P := Try.prog) agO szO hlt
    have hle := hy2.loadAgg (P := Try.prog) agO szO hlt
    have r1 := ox i hlt
    have r2 := oy i hlt
    have hrun := h i hlt hlt
    have q1 : ((lx.drop (i * 5)).take 5).length = 5 := by
      have e := hx.length
      have : (i + 1) * 5 ≤ n * 5 := Nat.mul_le_mul_right 5 hlt
      rw [List.length_take, List.length_drop]; omega
    have q2 : ((ly.drop (i * 5)).take 5).length = 5 := by
      have e := hy.length
      have : (i + 1) * 5 ≤ n * 5 := Nat.mul_le_mul_right 5 hlt
      rw [List.length_take, List.length_drop]; omega
    generalize (lx.drop (i * 5)).take 5 = xs at hld r1 hrun q1
    generalize (ly.drop (i * 5)).take 5 = ys at hle r2 hrun q2
    have hcl : noneC.length + 1 = 5 + 1 := rfl
    simp (config := { maxSteps := 1000000, implicitDefEqProofs := false }) (disch := omega) only [allW, Nat.reduceLT, Nat.reduceEqDiff, ↓reduceIte, hn, h15, h16, h17, eq_true d1, hix, hld, zO, plO]
    refine wstep_newPtr ?_
    intro s3 ht3 hst3 hnx3
    simp (config := { maxSteps := 1000000, implicitDefEqProofs := false }) (disch := omega) only [allW, Nat.reduceLT, Nat.reduceEqDiff, Nat.reduceAdd, ↓reduceIte, hn, hcl]
    refine wstep_storeAll szO (by decide) ht3 rfl rfl q1 r1 ?_
    intro s4 ht4 hnx4 hot4
    have ht4 : Thing s4 s2.next xs := ht4
    have hs24 : Stay s2.next s2 s4 := hst3.trans ⟨by omega, fun j hj => hot4 j (by omega)⟩
    have hy4 := hy2.keeps hs24
    have hle4 : loadA Try.prog s4 26 (elemPtr 5 y i) = some (.agg ys.toArray) := by
      have e := hy4.loadAgg (P := Try.prog) agO szO hlt
      have e2 := hy2.loadAgg (P := Try.prog) agO szO hlt
      rw [e, ← e2, hle]
    simp (config := { maxSteps := 1000000, implicitDefEqProofs := false }) (disch := omega) only [allW, Nat.reduceLT, Nat.reduceEqDiff, ↓reduceIte, hn, h1, hiy, hle4, zO, plO]
    refine wstep_newPtr ?_
    intro s5 ht5 hst5 hnx5
    simp (config := { maxSteps := 1000000, implicitDefEqProofs := false }) (disch := omega) only [allW, Nat.reduceLT, Nat.reduceEqDiff, Nat.reduceAdd, ↓reduceIte, hn, hcl]
    refine wstep_storeAll szO (by decide) ht5 rfl rfl q2 r2 ?_
    intro s6 ht6 hnx6 hot6
    have ht6 : Thing s6 s4.next ys := ht6
    have hs46 : Stay s4.next s4 s6 := hst5.trans ⟨by omega, fun j hj => hot6 j (by omega)⟩
    have hs26 : Stay s2.next s2 s6 := hs24.trans (hs46.weaken hs24.next)
    have la : loadA Try.prog s6 26 (.pointer (some ⟨s2.next, 0, some (5 + 1)⟩)) = some (.agg xs.toArray) := Thing.loadAll agO (by rw [q1]; exact szO) (ht4.keeps hs46) (by rw [q1])
    have lb : loadA Try.prog s6 26 (.pointer (some ⟨s4.next, 0, some (5 + 1)⟩)) = some (.agg ys.toArray) := Thing.loadAll agO (by rw [q2]; exact szO) ht6 (by rw [q2])
    simp (config := { maxSteps := 1000000, implicitDefEqProofs := false }) (disch := omega) only [allW, allR, evalAll, Nat.reduceLT, Nat.reduceEqDiff, ↓reduceIte, hn, h2, la, lb]
    refine (hrun s6 (hst.trans (hs26.weaken hst.next))).mono ?_
    rintro _ s7 ⟨⟨t, rfl, htt⟩, hs7⟩
    have hss : Stay s.next s s7 := (hst.trans (hs26.weaken hst.next)).trans (hs7.weaken (by have := hst.next; have := hs26.next; omega))
    cases t with
    | false =>
      simp (config := { maxSteps := 1000000, implicitDefEqProofs := false }) (disch := omega) only [allW, Nat.reduceLT, ↓reduceIte, hn]
      exact hQ _ _ _ (.inl ⟨rfl, hss, by simp only [n_put, hn], by simp only [get_put, ↓reduceIte], fun h => by have := htt.2 (h i hlt); cases this⟩)
    | true =>
      simp (config := { maxSteps := 1000000, implicitDefEqProofs := false }) (disch := omega) only [allW, Nat.reduceLT, Nat.reduceEqDiff, ↓reduceIte, hn, h17, wrapI]
      exact wround_next (n - (i + 1)) (by omega) ⟨i + 1, rfl, by omega, upto_next hP (htt.1 rfl), hss, by simp only [n_put, hn], by simp only [get_put, ↓reduceIte, Nat.reduceEqDiff, h1], by simp only [get_put, ↓reduceIte, Nat.reduceEqDiff, h2], by simp only [get_put, ↓reduceIte, Nat.reduceEqDiff, h15], by simp only [get_put, ↓reduceIte, Nat.reduceEqDiff, h16], by simp only [get_put, ↓reduceIte]; rfl⟩
  rintro z f' s6 (⟨rfl, hs, hn', h6, hne⟩ | ⟨rfl, hP, hs, hn'⟩)
  · simp (config := { maxSteps := 1000000, implicitDefEqProofs := false }) (disch := omega) only [allW, wfn_ret, oneOf, Nat.reduceLT, ↓reduceIte, hn', h6, Try.results71]
    exact ⟨.no (fun h => hne h.2), hs⟩
  simp (config := { maxSteps := 1000000, implicitDefEqProofs := false }) (disch := omega) only [allW, wfn_ret, oneOf, Nat.reduceLT, ↓reduceIte, hn', Try.results71]
  exact ⟨.yes ⟨rfl, hP⟩, hs⟩
set_option maxHeartbeats 4000000 in
theorem eqfE {lib : Prims} (hl : lib.at 73 = none) (g : Nat) (s : ASt) (x y : Value) (n m : Nat) (lx ly : List Value) (hx : Sees s 6 x n lx) (hy : Sees s 6 y m ly) (hnn : n ≤ 140737488351232) (hm : m ≤ 140737488351232) (Pr : Nat → Prop)
    (ox : ∀ i, i < n → ((lx.drop (i * 6)).take 6).all okCell = true) (oy : ∀ i, i < m → ((ly.drop (i * 6)).take 6).all okCell = true)
    (h : ∀ i, i < n → i < m → ∀ s' : ASt, Stay s.next s s' → Runs Try.prog lib g [.agg ((lx.drop (i * 6)).take 6).toArray, .agg ((ly.drop (i * 6)).take 6).toArray] s' fun v s'' => Answers (Pr i) v ∧ Stay s'.next s' s'') :
    Runs Try.prog lib 73 [x, y, .func (.func g) #[] #[]] s (Alike s n m Pr) := by
  refine Runs.enter 32 Try.func73 rfl hl rfl rfl ?_
  intro f hn hf
  have h0 : f.get 0 = x := hf 0
  have h1 : f.get 1 = y := hf 1
  have h2 : f.get 2 = .func (.func g) #[] #[] := hf 2
  clear hf
  by_cases cl : ((n : Nat) : Int) = ((m : Nat) : Int)
  rotate_left
  · simp (config := { maxSteps := 1000000, implicitDefEqProofs := false }) (disch := omega) only [allW, allR, wfn_ret, oneOf, evalAll, Nat.reduceLT, Nat.reduceEqDiff, ↓reduceIte, hn, h0, h1, hx.lenA Try.underlying24, hy.lenA Try.underlying24, eq_false cl, Try.results73]
    exact ⟨.no (fun h => by have := h.1; omega), Stay.refl _ _⟩
  obtain rfl : n = m := by omega
  simp (config := { maxSteps := 1000000, implicitDefEqProofs := false }) (disch := omega) only [allW, allR, evalAll, Nat.reduceLT, Nat.reduceEqDiff, ↓reduceIte, hn, h0, h1, hx.lenA Try.underlying24, hy.lenA Try.underlying24]
  refine Comes.loopOut (fun z f s' => ∃ i : Nat, z = n - i ∧ i ≤ n ∧ (∀ j, j < i → Pr j) ∧ Stay s.next s s' ∧ f.n = 32 ∧ f.get 1 = y ∧ f.get 2 = .func (.func g) #[] #[] ∧ f.get 15 = x ∧ f.get 16 = .int .i64 (n : Nat) ∧ f.get 17 = .int .i64 (i : Nat))
    (fun z f s' => (z = .ret ∧ Stay s.next s s' ∧ f.n = 32 ∧ f.get 6 = .bool false ∧ ¬ ∀ i, i < n → Pr i) ∨ (z = .exit 0 ∧ (∀ i, i < n → Pr i) ∧ Stay s.next s s' ∧ f.n = 32))
    ⟨0, rfl, by omega, fun j h => by omega, Stay.refl _ _, by simp only [n_put, hn], by simp only [get_put, ↓reduceIte, Nat.reduceEqDiff, h1], by simp only [get_put, ↓reduceIte, Nat.reduceEqDiff, h2], by simp only [get_put, ↓reduceIte, Nat.reduceEqDiff], by simp only [get_put, ↓reduceIte, Nat.reduceEqDiff], by simp only [get_put, ↓reduceIte]; rfl⟩ ?_ ?_
  · clear hn h0 h1 h2 f
    rintro Q hQ z f s2 ⟨i, rfl, hi, hP, hst, hn, h1, h2, h15, h16, h17⟩
    by_cases hlt : i < n
    rotate_left
    · obtain rfl : i = n := by omega
      have d1 : ¬ ((i : Nat) : Int) < ((i : Nat) : Int) := by omega
      simp (config := { maxSteps := 1000000, implicitDefEqProofs := false }) (disch := omega) only [allW, Nat.reduceLT, ↓reduceIte, hn, h16, h17, eq_false d1]
      exact hQ _ _ _ (.inr ⟨rfl, hP, hst, by simp only [n_put, hn]⟩)
    have d1 : ((i : Nat) : Int) < ((n : Nat) : Int) := by omega
    have hx2 := hx.keeps hst
    have hy2 := hy.keeps hst
    have hix := hx2.indexAddr (P := Try.prog) (k := .i64) (x := (i : Int)) Try.underlying24 szE (by omega) (by omega)
    have hiy := hy2.indexAddr (P := Try.prog) (k := .i64) (x := (i : Int)) Try.underlying24 szE (by omega) (by omega)
    rw [Int.toNat_natCast] at hix hiy
    have hld := hx2.loadAgg (P := Try.prog) agE szE hlt
    have hle := hy2.loadAgg (P := Try.prog) agE szE hlt
    have r1 := ox i hlt
    have r2 := oy i hlt
    have hrun := h i hlt hlt
    have q1 : ((lx.drop (i * 6)).take 6).length = 6 := by
      have e := hx.length
      have : (i + 1) * 6 ≤ n * 6 := Nat.mul_le_mul_right 6 hlt
      rw [List.length_take, List.length_drop]; omega
    have q2 : ((ly.drop (i * 6)).take 6).length = 6 := by
      have e := hy.length
      have : (i + 1) * 6 ≤ n * 6 := Nat.mul_le_mul_right 6 hlt
      rw [List.length_take, List.length_drop]; omega
    generalize (lx.drop (i * 6)).take 6 = xs at hld r1 hrun q1
    generalize (ly.drop (i * 6)).take 6 = ys at hle r2 hrun q2
    have hcl : noneE.length + 1 = 6 + 1 := rfl
    simp (config := { maxSteps := 1000000, implicitDefEqProofs := false }) (disch := omega) only [allW, Nat.reduceLT, Nat.reduceEqDiff, ↓reduceIte, hn, h15, h16, h17, eq_true d1, hix, hld, zE, plE]
    refine wstep_newPtr ?_
    intro s3 ht3 hst3 hnx3
    simp (config := { maxSteps := 1000000, implicitDefEqProofs := false }) (disch := omega) only [allW, Nat.reduceLT, Nat.reduceEqDiff, Nat.reduceAdd, ↓reduceIte, hn, hcl]
    refine wstep_storeAll szE (by decide) ht3 rfl rfl q1 r1 ?_
    intro s4 ht4 hnx4 hot4
    have ht4 : Thing s4 s2.next xs := ht4
    have hs24 : Stay s2.next s2 s4 := hst3.trans ⟨by omega, fun j hj => hot4 j (by omega)⟩
    have hy4 := hy2.keeps hs24
    have hle4 : loadA Try.prog s4 51 (elemPtr 6 y i) = some (.agg ys.toArray) := by
      have e := hy4.loadAgg (P := Try.prog) agE szE hlt
      have e2 := hy2.loadAgg (P := Try.prog) agE szE hlt
      rw [e, ← e2, hle]
    simp (config := { maxSteps := 1000000, implicitDefEqProofs := false }) (disch := omega) only [allW, Nat.reduceLT, Nat.reduceEqDiff, ↓reduceIte, hn, h1, hiy, hle4, zE, plE]
    refine wstep_newPtr ?_
    intro s5 ht5 hst5 hnx5
    simp (config := { maxSteps := 1000000, implicitDefEqProofs := false }) (disch := omega) only [allW, Nat.reduceLT, Nat.reduceEqDiff, Nat.reduceAdd, ↓reduceIte, hn, hcl]
    refine wstep_storeAll szE (by decide) ht5 rfl rfl q2 r2 ?_
    intro s6 ht6 hnx6 hot6
    have ht6 : Thing s6 s4.next ys := ht6
    have hs46 : Stay s4.next s4 s6 := hst5.trans ⟨by omega, fun j hj => hot6 j (by omega)⟩
    have hs26 : Stay s2.next s2 s6 := hs24.trans (hs46.weaken hs24.next)
    have la : loadA Try.prog s6 51 (.pointer (some ⟨s2.next, 0, some (6 + 1)⟩)) = some (.agg xs.toArray) := Thing.loadAll agE (by rw [q1]; exact szE) (ht4.keeps hs46) (by rw [q1])
    have lb : loadA Try.prog s6 51 (.pointer (some ⟨s4.next, 0, some (6 + 1)⟩)) = some (.agg ys.toArray) := Thing.loadAll agE (by rw [q2]; exact szE) ht6 (by rw [q2])
    simp (config := { maxSteps := 1000000, implicitDefEqProofs := false }) (disch := omega) only [allW, allR, evalAll, Nat.reduceLT, Nat.reduceEqDiff, ↓reduceIte, hn, h2, la, lb]
    refine (hrun s6 (hst.trans (hs26.weaken hst.next))).mono ?_
    rintro _ s7 ⟨⟨t, rfl, htt⟩, hs7⟩
    have hss : Stay s.next s s7 := (hst.trans (hs26.weaken hst.next)).trans (hs7.weaken (by have := hst.next; have := hs26.next; omega))
    cases t with
    | false =>
      simp (config := { maxSteps := 1000000, implicitDefEqProofs := false }) (disch := omega) only [allW, Nat.reduceLT, ↓reduceIte, hn]
      exact hQ _ _ _ (.inl ⟨rfl, hss, by simp only [n_put, hn], by simp only [get_put, ↓reduceIte], fun h => by have := htt.2 (h i hlt); cases this⟩)
    | true =>
      simp (config := { maxSteps := 1000000, implicitDefEqProofs := false }) (disch := omega) only [allW, Nat.reduceLT, Nat.reduceEqDiff, ↓reduceIte, hn, h17, wrapI]
      exact wround_next (n - (i + 1)) (by omega) ⟨i + 1, rfl, by omega, upto_next hP (htt.1 rfl), hss, by simp only [n_put, hn], by simp only [get_put, ↓reduceIte, Nat.reduceEqDiff, h1], by simp only [get_put, ↓reduceIte, Nat.reduceEqDiff, h2], by simp only [get_put, ↓reduceIte, Nat.reduceEqDiff, h15], by simp only [get_put, ↓reduceIte, Nat.reduceEqDiff, h16], by simp only [get_put, ↓reduceIte]; rfl⟩
  rintro z f' s6 (⟨rfl, hs, hn', h6, hne⟩ | ⟨rfl, hP, hs, hn'⟩)
  · simp (config := { maxSteps := 1000000, implicitDefEqProofs := false }) (disch := omega) only [allW, wfn_ret, oneOf, Nat.reduceLT, ↓reduceIte, hn', h6, Try.results73]
    exact ⟨.no (fun h => hne h.2), hs⟩
  simp (config := { maxSteps := 1000000, implicitDefEqProofs := false }) (disch := omega) only [allW, wfn_ret, oneOf, Nat.reduceLT, ↓reduceIte, hn', Try.results73]
  exact ⟨.yes ⟨rfl, hP⟩, hs⟩
end Go.Proofs.Ythlbahnfimigcaa
