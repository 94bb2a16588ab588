/-
  Objects: whether one may be, by the program: closures, whether entries rise, the whole.
-/
import Derived.Test.YtdhdhbkikhedlaaCosY
import Derived.Test.YtdhdhbkikhedlaaCosK
set_option linter.unusedSimpArgs false
set_option linter.unusedVariables false
set_option maxRecDepth 100000
namespace Go.Cl
theorem aop_makeInterface {P : Program} {d : Option Tmp} {ty : TypeId} {ps : String} {af : Array Edge} {gd : Option (Nat × Bool)} {f : AFr} {s : ASt} (t : TypeId) (x : Operand) : aop P ⟨d, .makeInterface t x, ty, ps, af, gd⟩ f s = match P.underlying t, evalA f x with
    | some (.interface _), _ => none
    | some _, some v => some (.val (.iface t v) s)
    | _, _ => none := rfl
noncomputable def notD (p : Prop) : Bool := !@decide p (Classical.propDecidable p)
theorem notD_true (p : Prop) : notD p = true ↔ ¬ p := by
  unfold notD
  rw [Bool.not_eq_true', decide_eq_false_iff_not]
theorem notD_eq {p : Prop} (h : ¬ p) : notD p = true := (notD_true p).2 h
theorem notD_iff (p : Prop) (t : Bool) (h : t = true ↔ p) : (!t) = notD p := by
  unfold notD
  congr 1
  cases t with
  | true => exact (@decide_eq_true _ (Classical.propDecidable p) (h.1 rfl)).symm
  | false => exact (@decide_eq_false _ (Classical.propDecidable p) fun k => Bool.noConfusion (h.2 k)).symm
end Go.Cl
namespace Go.Proofs.Ytdhdhbkikhedlaa
open Go.Cl Go.Lib
def SomeAt (p : Nat → Bool) (n : Nat) (s : ASt) (v : Value) (s' : ASt) : Prop := Ans (∃ i, i < n ∧ p i = true) s v s'
set_option maxHeartbeats 4000000 in
theorem containsO {lib : Prims} (L : LibM lib) (g : Nat) (bs : List Value) (s : ASt) (x : Value) (n : Nat) (lx : List Value) (hx : Sees s 5 x n lx) (hnn : n ≤ 140737488351232) (p : Nat → Bool)
    (h : ∀ i, i < n → ∀ s' : ASt, Stay s.next s s' → Runs Try.prog lib g (.agg ((lx.drop (i * 5)).take 5).toArray :: bs) s' (Bools s' (p i))) :
    Runs Try.prog lib 71 [x, .func (.func g) #[] bs.toArray] s (SomeAt p n s) := by
  refine Runs.enter 9 Try.func71 rfl L.hasO rfl rfl ?_
  intro f hn hf
  have h0 : f.get 0 = x := hf 0
  have h1 : f.get 1 = .func (.func g) #[] bs.toArray := hf 1
  clear hf
  simp (config := { maxSteps := 1000000, implicitDefEqProofs := false }) (disch := omega) only [allW, allR, oneOf, evalAll, partsA, optA, Nat.reduceLT, Nat.reduceLeDiff, Nat.reduceEqDiff, Nat.reduceAdd, ↓reduceIte, hn, h0, h1]
  refine Runs.mono (Q := FoundAt s p n) ?_ ?_
  · clear hn h0 h1 f
    refine Runs.enter 19 Try.func80 rfl L.idxO rfl rfl ?_
    intro f hn hf
    have h0 : f.get 0 = x := hf 0
    have h1 : f.get 1 = .func (.func g) #[] bs.toArray := hf 1
    clear hf
    simp (config := { maxSteps := 1000000, implicitDefEqProofs := false }) (disch := omega) only [allW, allR, oneOf, evalAll, partsA, optA, Nat.reduceLT, Nat.reduceLeDiff, Nat.reduceEqDiff, Nat.reduceAdd, ↓reduceIte, hn, h0, h1, hx.lenA Try.underlying23]
    refine Comes.loopOut (fun z f s' => ∃ i : Nat, z = n - i ∧ i ≤ n ∧ (∀ j, j < i → p j = false) ∧ Stay s.next s s' ∧ f.n = 19 ∧ f.get 0 = x ∧ f.get 1 = .func (.func g) #[] bs.toArray ∧ f.get 7 = .int .i64 (n : Nat) ∧ f.get 8 = .int .i64 (i : Nat))
      (fun z f s' => (z = .ret ∧ Stay s.next s s' ∧ f.n = 19 ∧ ∃ r : Nat, f.get 4 = .int .i64 (r : Nat) ∧ r < n ∧ p r = true ∧ ∀ j, j < r → p j = false) ∨ (z = .exit 0 ∧ (∀ j, j < n → p j = false) ∧ Stay s.next s s' ∧ f.n = 19))
      ⟨0, rfl, by omega, fun j h => by omega, Stay.refl _ _, by simp only [get_put, n_put, ↓reduceIte, Nat.reduceEqDiff, hn], by simp only [get_put, n_put, ↓reduceIte, Nat.reduceEqDiff, h0], by simp only [get_put, n_put, ↓reduceIte, Nat.reduceEqDiff, h1], by simp only [get_put, n_put, ↓reduceIte, Nat.reduceEqDiff], by simp only [get_put, n_put, ↓reduceIte, Nat.reduceEqDiff]; rfl⟩ ?_ ?_
    · clear hn h0 h1 f
      rintro Q hQ z f s2 ⟨i, rfl, hi, hP, hst, hn, h0, h1, h7, h8⟩
      by_cases hlt : i < n
      rotate_left
      · obtain rfl : i = n := by omega
        have d1 : ¬ ((i : Nat) : Int) < ((i : Nat) : Int) := by omega
        simp (config := { maxSteps := 1000000, implicitDefEqProofs := false }) (disch := omega) only [allW, allR, oneOf, evalAll, partsA, optA, Nat.reduceLT, Nat.reduceLeDiff, Nat.reduceEqDiff, Nat.reduceAdd, ↓reduceIte, hn, h0, h1, h7, h8, eq_false d1]
        exact hQ _ _ _ (.inr ⟨rfl, hP, hst, by simp only [get_put, n_put, ↓reduceIte, Nat.reduceEqDiff, hn]⟩)
      have d1 : ((i : Nat) : Int) < ((n : Nat) : Int) := by omega
      have hx2 := hx.keeps hst
      have hix := hx2.indexAddr (P := Try.prog) (k := .i64) (x := (i : Int)) Try.underlying23 szO (by omega) (by omega)
      rw [Int.toNat_natCast] at hix
      have hld := hx2.loadAgg (P := Try.prog) agO szO hlt
      have hrun := h i hlt s2 hst
      generalize (lx.drop (i * 5)).take 5 = xs at hld hrun
      simp (config := { maxSteps := 1000000, implicitDefEqProofs := false }) (disch := omega) only [allW, allR, oneOf, evalAll, partsA, optA, Nat.reduceLT, Nat.reduceLeDiff, Nat.reduceEqDiff, Nat.reduceAdd, ↓reduceIte, hn, h0, h1, h7, h8, eq_true d1, hx2.self, hix, hld]
      refine hrun.mono ?_
      rintro _ s3 ⟨rfl, hs3⟩
      have hss := hst.trans (hs3.weaken hst.next)
      cases hp : p i with
      | true =>
        simp (config := { maxSteps := 1000000, implicitDefEqProofs := false }) (disch := omega) only [allW, allR, oneOf, evalAll, partsA, optA, Nat.reduceLT, Nat.reduceLeDiff, Nat.reduceEqDiff, Nat.reduceAdd, ↓reduceIte, hn, h0, h1, h7, h8]
        exact hQ _ _ _ (.inl ⟨rfl, hss, by simp only [get_put, n_put, ↓reduceIte, Nat.reduceEqDiff, hn], i, by simp only [get_put, n_put, ↓reduceIte, Nat.reduceEqDiff], hlt, hp, hP⟩)
      | false =>
        simp (config := { maxSteps := 1000000, implicitDefEqProofs := false }) (disch := omega) only [allW, allR, oneOf, evalAll, partsA, optA, Nat.reduceLT, Nat.reduceLeDiff, Nat.reduceEqDiff, Nat.reduceAdd, ↓reduceIte, hn, h0, h1, h7, h8, wrapI]
        exact wround_next (n - (i + 1)) (by omega) ⟨i + 1, rfl, by omega, upto_next hP hp, hss, by simp only [get_put, n_put, ↓reduceIte, Nat.reduceEqDiff, hn], by simp only [get_put, n_put, ↓reduceIte, Nat.reduceEqDiff, h0], by simp only [get_put, n_put, ↓reduceIte, Nat.reduceEqDiff, h1], by simp only [get_put, n_put, ↓reduceIte, Nat.reduceEqDiff, h7], by simp only [get_put, n_put, ↓reduceIte, Nat.reduceEqDiff]; rfl⟩
    rintro z f' s6 (⟨rfl, hs, hn', r, h4, hr1, hr2, hr3⟩ | ⟨rfl, hP, hs, hn'⟩)
    · simp (config := { maxSteps := 1000000, implicitDefEqProofs := false }) (disch := omega) only [allW, allR, wfn_ret, wfn_normal, oneOf, evalAll, partsA, optA, Nat.reduceLT, Nat.reduceLeDiff, Nat.reduceEqDiff, Nat.reduceAdd, ↓reduceIte, hn', h4, Try.results80]
      exact ⟨⟨_, rfl, .inr ⟨r, hr1, rfl, hr2, hr3⟩⟩, hs⟩
    simp (config := { maxSteps := 1000000, implicitDefEqProofs := false }) (disch := omega) only [allW, allR, wfn_ret, wfn_normal, oneOf, evalAll, partsA, optA, Nat.reduceLT, Nat.reduceLeDiff, Nat.reduceEqDiff, Nat.reduceAdd, ↓reduceIte, hn', Try.results80]
    exact ⟨⟨_, rfl, .inl ⟨rfl, hP⟩⟩, hs⟩
  · rintro _ s2 ⟨⟨r, rfl, hr⟩, hs⟩
    simp (config := { maxSteps := 1000000, implicitDefEqProofs := false }) (disch := omega) only [allW, allR, wfn_ret, wfn_normal, oneOf, evalAll, partsA, optA, Nat.reduceLT, Nat.reduceLeDiff, Nat.reduceEqDiff, Nat.reduceAdd, ↓reduceIte, hn, ge_iff_le, Try.results71]
    refine ⟨⟨_, rfl, ?_⟩, hs⟩
    rcases hr with ⟨rfl, hr⟩ | ⟨k, hk, rfl, hp, _⟩
    · exact ⟨fun h => absurd (of_decide_eq_true h) (by decide), fun ⟨i, hi, h⟩ => by rw [hr i hi] at h; cases h⟩
    · exact ⟨fun _ => ⟨k, hk, hp⟩, fun _ => decide_eq_true (by omega)⟩
set_option maxHeartbeats 4000000 in
theorem containsE {lib : Prims} (L : LibM lib) (g : Nat) (bs : List Value) (s : ASt) (x : Value) (n : Nat) (lx : List Value) (hx : Sees s 6 x n lx) (hnn : n ≤ 140737488351232) (p : Nat → Bool)
    (h : ∀ i, i < n → ∀ s' : ASt, Stay s.next s s' → Runs Try.prog lib g (.agg ((lx.drop (i * 6)).take 6).toArray :: bs) s' (Bools s' (p i))) :
    Runs Try.prog lib 76 [x, .func (.func g) #[] bs.toArray] s (SomeAt p n s) := by
  refine Runs.enter 9 Try.func76 rfl L.hasE rfl rfl ?_
  intro f hn hf
  have h0 : f.get 0 = x := hf 0
  have h1 : f.get 1 = .func (.func g) #[] bs.toArray := hf 1
  clear hf
  simp (config := { maxSteps := 1000000, implicitDefEqProofs := false }) (disch := omega) only [allW, allR, oneOf, evalAll, partsA, optA, Nat.reduceLT, Nat.reduceLeDiff, Nat.reduceEqDiff, Nat.reduceAdd, ↓reduceIte, hn, h0, h1]
  refine Runs.mono (Q := FoundAt s p n) ?_ ?_
  · clear hn h0 h1 f
    refine Runs.enter 19 Try.func62 rfl L.idxE rfl rfl ?_
    intro f hn hf
    have h0 : f.get 0 = x := hf 0
    have h1 : f.get 1 = .func (.func g) #[] bs.toArray := hf 1
    clear hf
    simp (config := { maxSteps := 1000000, implicitDefEqProofs := false }) (disch := omega) only [allW, allR, oneOf, evalAll, partsA, optA, Nat.reduceLT, Nat.reduceLeDiff, Nat.reduceEqDiff, Nat.reduceAdd, ↓reduceIte, hn, h0, h1, hx.lenA Try.underlying24]
    refine Comes.loopOut (fun z f s' => ∃ i : Nat, z = n - i ∧ i ≤ n ∧ (∀ j, j < i → p j = false) ∧ Stay s.next s s' ∧ f.n = 19 ∧ f.get 0 = x ∧ f.get 1 = .func (.func g) #[] bs.toArray ∧ f.get 7 = .int .i64 (n : Nat) ∧ f.get 8 = .int .i64 (i : Nat))
      (fun z f s' => (z = .ret ∧ Stay s.next s s' ∧ f.n = 19 ∧ ∃ r : Nat, f.get 4 = .int .i64 (r : Nat) ∧ r < n ∧ p r = true ∧ ∀ j, j < r → p j = false) ∨ (z = .exit 0 ∧ (∀ j, j < n → p j = false) ∧ Stay s.next s s' ∧ f.n = 19))
      ⟨0, rfl, by omega, fun j h => by omega, Stay.refl _ _, by simp only [get_put, n_put, ↓reduceIte, Nat.reduceEqDiff, hn], by simp only [get_put, n_put, ↓reduceIte, Nat.reduceEqDiff, h0], by simp only [get_put, n_put, ↓reduceIte, Nat.reduceEqDiff, h1], by simp only [get_put, n_put, ↓reduceIte, Nat.reduceEqDiff], by simp only [get_put, n_put, ↓reduceIte, Nat.reduceEqDiff]; rfl⟩ ?_ ?_
    · clear hn h0 h1 f
      rintro Q hQ z f s2 ⟨i, rfl, hi, hP, hst, hn, h0, h1, h7, h8⟩
      by_cases hlt : i < n
      rotate_left
      · obtain rfl : i = n := by omega
        have d1 : ¬ ((i : Nat) : Int) < ((i : Nat) : Int) := by omega
        simp (config := { maxSteps := 1000000, implicitDefEqProofs := false }) (disch := omega) only [allW, allR, oneOf, evalAll, partsA, optA, Nat.reduceLT, Nat.reduceLeDiff, Nat.reduceEqDiff, Nat.reduceAdd, ↓reduceIte, hn, h0, h1, h7, h8, eq_false d1]
        exact hQ _ _ _ (.inr ⟨rfl, hP, hst, by simp only [get_put, n_put, ↓reduceIte, Nat.reduceEqDiff, hn]⟩)
      have d1 : ((i : Nat) : Int) < ((n : Nat) : Int) := by omega
      have hx2 := hx.keeps hst
      have hix := hx2.indexAddr (P := Try.prog) (k := .i64) (x := (i : Int)) Try.underlying24 szE (by omega) (by omega)
      rw [Int.toNat_natCast] at hix
      have hld := hx2.loadAgg (P := Try.prog) agE szE hlt
      have hrun := h i hlt s2 hst
      generalize (lx.drop (i * 6)).take 6 = xs at hld hrun
      simp (config := { maxSteps := 1000000, implicitDefEqProofs := false }) (disch := omega) only [allW, allR, oneOf, evalAll, partsA, optA, Nat.reduceLT, Nat.reduceLeDiff, Nat.reduceEqDiff, Nat.reduceAdd, ↓reduceIte, hn, h0, h1, h7, h8, eq_true d1, hx2.self, hix, hld]
      refine hrun.mono ?_
      rintro _ s3 ⟨rfl, hs3⟩
      have hss := hst.trans (hs3.weaken hst.next)
      cases hp : p i with
      | true =>
        simp (config := { maxSteps := 1000000, implicitDefEqProofs := false }) (disch := omega) only [allW, allR, oneOf, evalAll, partsA, optA, Nat.reduceLT, Nat.reduceLeDiff, Nat.reduceEqDiff, Nat.reduceAdd, ↓reduceIte, hn, h0, h1, h7, h8]
        exact hQ _ _ _ (.inl ⟨rfl, hss, by simp only [get_put, n_put, ↓reduceIte, Nat.reduceEqDiff, hn], i, by simp only [get_put, n_put, ↓reduceIte, Nat.reduceEqDiff], hlt, hp, hP⟩)
      | false =>
        simp (config := { maxSteps := 1000000, implicitDefEqProofs := false }) (disch := omega) only [allW, allR, oneOf, evalAll, partsA, optA, Nat.reduceLT, Nat.reduceLeDiff, Nat.reduceEqDiff, Nat.reduceAdd, ↓reduceIte, hn, h0, h1, h7, h8, wrapI]
        exact wround_next (n - (i + 1)) (by omega) ⟨i + 1, rfl, by omega, upto_next hP hp, hss, by simp only [get_put, n_put, ↓reduceIte, Nat.reduceEqDiff, hn], by simp only [get_put, n_put, ↓reduceIte, Nat.reduceEqDiff, h0], by simp only [get_put, n_put, ↓reduceIte, Nat.reduceEqDiff, h1], by simp only [get_put, n_put, ↓reduceIte, Nat.reduceEqDiff, h7], by simp only [get_put, n_put, ↓reduceIte, Nat.reduceEqDiff]; rfl⟩
    rintro z f' s6 (⟨rfl, hs, hn', r, h4, hr1, hr2, hr3⟩ | ⟨rfl, hP, hs, hn'⟩)
    · simp (config := { maxSteps := 1000000, implicitDefEqProofs := false }) (disch := omega) only [allW, allR, wfn_ret, wfn_normal, oneOf, evalAll, partsA, optA, Nat.reduceLT, Nat.reduceLeDiff, Nat.reduceEqDiff, Nat.reduceAdd, ↓reduceIte, hn', h4, Try.results62]
      exact ⟨⟨_, rfl, .inr ⟨r, hr1, rfl, hr2, hr3⟩⟩, hs⟩
    simp (config := { maxSteps := 1000000, implicitDefEqProofs := false }) (disch := omega) only [allW, allR, wfn_ret, wfn_normal, oneOf, evalAll, partsA, optA, Nat.reduceLT, Nat.reduceLeDiff, Nat.reduceEqDiff, Nat.reduceAdd, ↓reduceIte, hn', Try.results62]
    exact ⟨⟨_, rfl, .inl ⟨rfl, hP⟩⟩, hs⟩
  · rintro _ s2 ⟨⟨r, rfl, hr⟩, hs⟩
    simp (config := { maxSteps := 1000000, implicitDefEqProofs := false }) (disch := omega) only [allW, allR, wfn_ret, wfn_normal, oneOf, evalAll, partsA, optA, Nat.reduceLT, Nat.reduceLeDiff, Nat.reduceEqDiff, Nat.reduceAdd, ↓reduceIte, hn, ge_iff_le, Try.results76]
    refine ⟨⟨_, rfl, ?_⟩, hs⟩
    rcases hr with ⟨rfl, hr⟩ | ⟨k, hk, rfl, hp, _⟩
    · exact ⟨fun h => absurd (of_decide_eq_true h) (by decide), fun ⟨i, hi, h⟩ => by rw [hr i hi] at h; cases h⟩
    · exact ⟨fun _ => ⟨k, hk, hp⟩, fun _ => decide_eq_true (by omega)⟩
theorem inner_any {lib : Prims} (L : LibM lib) (F : Nat → Prop) (s : ASt) (cs : List Value) (o : O) (p : Int) (ho : OIs F s cs o) (ih : ∀ s', Stay s.next s s' → Runs Try.prog lib 57 [.agg cs.toArray, .int .i64 p] s' (Ans (MayO p o) s')) :
    Runs Try.prog lib 73 [.agg cs.toArray, .int .i64 p] s (Ans (o.kind ≠ 8 ∧ MayO p o) s) := by
  have hol := ho.len
  have hhead := objHead ho
  obtain ⟨QQ, hQQ⟩ : ∃ QQ : Value → ASt → Prop, QQ = Ans (o.kind ≠ 8 ∧ MayO p o) s := ⟨_, rfl⟩
  rw [← hQQ]
  refine Runs.enter 13 Try.func73 rfl L.inner rfl rfl ?_
  intro f hn hf
  have h0 : f.get 0 = .agg cs.toArray := hf 0
  have h1 : f.get 1 = .int .i64 p := hf 1
  clear hf
  simp (config := { maxSteps := 1000000, implicitDefEqProofs := false }) (disch := omega) only [allW, allR, oneOf, evalAll, partsA, optA, Nat.reduceLT, Nat.reduceLeDiff, Nat.reduceEqDiff, Nat.reduceAdd, ↓reduceIte, hn, h0, h1]
  refine wstep_newPtr ?_
  intro s1 ht hst hnx
  have ht : Thing s1 s.next cs := ht
  have p0 : loadA Try.prog s1 3 (.pointer (some ⟨s.next, 0, some 6⟩)) = some (.int .i64 o.kind) := by
    have := ht.load (P := Try.prog) agInt (off := 0) (c := 6) (by rw [hol]) (by omega)
    rw [this, hhead]
  have la := Thing.loadO ht hol
  by_cases c8 : o.kind = 8
  · simp (config := { maxSteps := 1000000, implicitDefEqProofs := false }) (disch := omega) only [allW, allR, wfn_ret, wfn_normal, oneOf, evalAll, partsA, optA, Nat.reduceLT, Nat.reduceLeDiff, Nat.reduceEqDiff, Nat.reduceAdd, ↓reduceIte, undef, hn, h0, h1, hol, of0, p0, eq_true c8, not_true_eq_false, Try.results73]
    rw [hQQ]
    exact ⟨⟨_, rfl, fun h => by (cases h), fun h => absurd c8 h.1⟩, hst⟩
  simp (config := { maxSteps := 1000000, implicitDefEqProofs := false }) (disch := omega) only [allW, allR, oneOf, evalAll, partsA, optA, Nat.reduceLT, Nat.reduceLeDiff, Nat.reduceEqDiff, Nat.reduceAdd, ↓reduceIte, undef, hn, h0, h1, hol, of0, p0, eq_false c8, not_false_eq_true, la]
  refine (ih s1 hst).mono ?_
  rintro _ s2 ⟨⟨t, rfl, ht2⟩, hs2⟩
  simp (config := { maxSteps := 1000000, implicitDefEqProofs := false }) (disch := omega) only [allW, allR, wfn_ret, wfn_normal, oneOf, evalAll, partsA, optA, Nat.reduceLT, Nat.reduceLeDiff, Nat.reduceEqDiff, Nat.reduceAdd, ↓reduceIte, undef, hn, Try.results73]
  rw [hQQ]
  exact ⟨⟨t, rfl, fun h => ⟨c8, ht2.1 h⟩, fun h => ht2.2 h.2⟩, hst.trans (hs2.weaken hst.next)⟩
theorem may1_any {lib : Prims} (L : LibM lib) (F : Nat → Prop) (s : ASt) (cs : List Value) (o : O) (p : Int) (j : Nat) (hj : Thing s j [.int .i64 p]) (hp0 : 1 ≤ p) (hp1 : p ≤ 1000) (ho : OIs F s cs o) (ih : ∀ s', Stay s.next s s' → Runs Try.prog lib 57 [.agg cs.toArray, .int .i64 (p - 1)] s' (Ans (MayO (p - 1) o) s')) :
    Runs Try.prog lib 72 [.agg cs.toArray, .pointer (some ⟨j, 0, some 2⟩)] s (Bools s (notD (o.kind ≠ 8 ∧ MayO (p - 1) o))) := by
  have hol := ho.len
  refine Runs.enter 9 Try.func72 rfl L.c1 rfl rfl ?_
  intro f hn hf
  have h0 : f.get 0 = .agg cs.toArray := hf 0
  have h1 : f.get 1 = .pointer (some ⟨j, 0, some 2⟩) := hf 1
  clear hf
  simp (config := { maxSteps := 1000000, implicitDefEqProofs := false }) (disch := omega) only [allW, allR, oneOf, evalAll, partsA, optA, Nat.reduceLT, Nat.reduceLeDiff, Nat.reduceEqDiff, Nat.reduceAdd, ↓reduceIte, hn, h0, h1]
  refine wstep_newPtr ?_
  intro s1 ht hst hnx
  have ht : Thing s1 s.next cs := ht
  have la := Thing.loadO ht hol
  have lp : loadA Try.prog s1 3 (.pointer (some ⟨j, 0, some 2⟩)) = some (.int .i64 p) := (hj.keeps hst).load agInt (off := 0) (c := 2) rfl (by simp)
  simp (config := { maxSteps := 1000000, implicitDefEqProofs := false }) (disch := omega) only [allW, allR, oneOf, evalAll, partsA, optA, Nat.reduceLT, Nat.reduceLeDiff, Nat.reduceEqDiff, Nat.reduceAdd, ↓reduceIte, hn, h0, h1, hol, la, lp, wrapI]
  refine (inner_any L F s1 cs o (p - 1) (ho.keeps hst) (fun s' h => ih s' (hst.trans (h.weaken hst.next)))).mono ?_
  rintro _ s2 ⟨⟨t, rfl, ht2⟩, hs2⟩
  simp (config := { maxSteps := 1000000, implicitDefEqProofs := false }) (disch := omega) only [allW, allR, wfn_ret, wfn_normal, oneOf, evalAll, partsA, optA, Nat.reduceLT, Nat.reduceLeDiff, Nat.reduceEqDiff, Nat.reduceAdd, ↓reduceIte, hn, Try.results72]
  exact ⟨by rw [notD_iff _ _ ht2], hst.trans (hs2.weaken hst.next)⟩
theorem may3_any {lib : Prims} (L : LibM lib) (F : Nat → Prop) (s : ASt) (cs : List Value) (e : List UInt8 × O) (p : Int) (j : Nat) (hj : Thing s j [.int .i64 p]) (hp0 : 1 ≤ p) (hp1 : p ≤ 1000) (ho : EntIs F s cs e) (ih : ∀ r s', OIs F s' r e.2 → Stay s.next s s' → Runs Try.prog lib 57 [.agg r.toArray, .int .i64 (p - 1)] s' (Ans (MayO (p - 1) e.2) s')) :
    Runs Try.prog lib 77 [.agg cs.toArray, .pointer (some ⟨j, 0, some 2⟩)] s (Bools s (notD ((NameB e.1 ∧ e.2.kind ≠ 8 ∧ e.2.kind ≠ 0) ∧ MayO (p - 1) e.2))) := by
  obtain ⟨r, rfl, hr, hel⟩ := ho
  have hrl := hr.len
  have hhead := objHead hr
  obtain ⟨QQ, hQQ⟩ : ∃ QQ : Value → ASt → Prop, QQ = Bools s (notD ((NameB e.1 ∧ e.2.kind ≠ 8 ∧ e.2.kind ≠ 0) ∧ MayO (p - 1) e.2)) := ⟨_, rfl⟩
  rw [← hQQ]
  refine Runs.enter 22 Try.func77 rfl L.c3 rfl rfl ?_
  intro f hn hf
  have h0 : f.get 0 = .agg (.string ⟨e.1.toArray⟩ :: r).toArray := hf 0
  have h1 : f.get 1 = .pointer (some ⟨j, 0, some 2⟩) := hf 1
  clear hf
  simp (config := { maxSteps := 1000000, implicitDefEqProofs := false }) (disch := omega) only [allW, allR, oneOf, evalAll, partsA, optA, Nat.reduceLT, Nat.reduceLeDiff, Nat.reduceEqDiff, Nat.reduceAdd, ↓reduceIte, hn, h0, h1]
  refine wstep_newPtr ?_
  intro s1 ht hst hnx
  have ht : Thing s1 s.next (.string ⟨e.1.toArray⟩ :: r) := ht
  have lk : loadA Try.prog s1 9 (.pointer (some ⟨s.next, 0, some 7⟩)) = some (.string ⟨e.1.toArray⟩) := ht.load agStr (off := 0) (c := 7) (by simp [hrl]) (by simp)
  simp (config := { maxSteps := 1000000, implicitDefEqProofs := false }) (disch := omega) only [allW, allR, oneOf, evalAll, partsA, optA, Nat.reduceLT, Nat.reduceLeDiff, Nat.reduceEqDiff, Nat.reduceAdd, ↓reduceIte, hn, h0, h1, List.length_cons, hrl, ofE0, lk]
  refine (nameB_any L s1 e.1 hel).mono ?_
  rintro _ s2 ⟨⟨t, rfl, ht2⟩, hs2⟩
  have hs02 := hst.trans (hs2.weaken hst.next)
  have ht' := ht.keeps hs2
  have lz : loadA Try.prog s2 3 (.pointer (some ⟨s.next, 1, some 7⟩)) = some (.int .i64 e.2.kind) := by
    have := ht'.load (P := Try.prog) agInt (off := 1) (c := 7) (by simp [hrl]) (by simp [hrl])
    rw [this, ← hhead]
    rfl
  have lo : loadA Try.prog s2 26 (.pointer (some ⟨s.next, 1, some 7⟩)) = some (.agg r.toArray) := by
    have := Thing.loadMid (P := Try.prog) agO szO ht' (off := 1) (c := 7) (by simp [hrl]) (by simp [hrl])
    rw [this, List.drop_succ_cons, List.drop_zero, List.take_of_length_le (by omega)]
  have lp : loadA Try.prog s2 3 (.pointer (some ⟨j, 0, some 2⟩)) = some (.int .i64 p) := (hj.keeps hs02).load agInt (off := 0) (c := 2) rfl (by simp)
  cases t with
  | false =>
    simp (config := { maxSteps := 1000000, implicitDefEqProofs := false }) (disch := omega) only [allW, allR, wfn_ret, wfn_normal, oneOf, evalAll, partsA, optA, Nat.reduceLT, Nat.reduceLeDiff, Nat.reduceEqDiff, Nat.reduceAdd, ↓reduceIte, undef, hn, h0, h1, Bool.not_false, Try.results77]
    rw [hQQ]
    exact ⟨congrArg _ (notD_eq fun h => Bool.noConfusion (ht2.2 h.1.1)).symm, hs02⟩
  | true =>
  by_cases c0 : e.2.kind = 0
  · simp (config := { maxSteps := 1000000, implicitDefEqProofs := false }) (disch := omega) only [allW, allR, wfn_ret, wfn_normal, oneOf, evalAll, partsA, optA, Nat.reduceLT, Nat.reduceLeDiff, Nat.reduceEqDiff, Nat.reduceAdd, ↓reduceIte, undef, hn, h0, h1, Bool.not_true, ofE1, of0, lz, eq_true c0, decide_true, Try.results77]
    rw [hQQ]
    exact ⟨congrArg _ (notD_eq fun h => h.1.2.2 c0).symm, hs02⟩
  simp (config := { maxSteps := 1000000, implicitDefEqProofs := false }) (disch := omega) only [allW, allR, oneOf, evalAll, partsA, optA, Nat.reduceLT, Nat.reduceLeDiff, Nat.reduceEqDiff, Nat.reduceAdd, ↓reduceIte, undef, hn, h0, h1, Bool.not_true, ofE1, of0, lz, eq_false c0, decide_false, lo, lp, wrapI]
  refine (inner_any L F s2 r e.2 (p - 1) (hr.keeps hs02) (fun s' h => ih r s' (hr.keeps (hs02.trans (h.weaken hs02.next))) (hs02.trans (h.weaken hs02.next)))).mono ?_
  rintro _ s3 ⟨⟨t, rfl, ht3⟩, hs3⟩
  simp (config := { maxSteps := 1000000, implicitDefEqProofs := false }) (disch := omega) only [allW, allR, wfn_ret, wfn_normal, oneOf, evalAll, partsA, optA, Nat.reduceLT, Nat.reduceLeDiff, Nat.reduceEqDiff, Nat.reduceAdd, ↓reduceIte, undef, hn, Try.results77]
  rw [hQQ]
  refine ⟨?_, hs02.trans (hs3.weaken hs02.next)⟩
  rw [notD_iff ((NameB e.1 ∧ e.2.kind ≠ 8 ∧ e.2.kind ≠ 0) ∧ MayO (p - 1) e.2) t (ht3.trans ⟨fun h => ⟨⟨ht2.1 rfl, h.1, c0⟩, h.2⟩, fun h => ⟨h.1.2.1, h.2⟩⟩)]
theorem may2_any {lib : Prims} (L : LibM lib) (F : Nat → Prop) (s : ASt) (k n : Int) (b : List UInt8) (l : List O) (d : List (List UInt8 × O)) (cs : List Value) (ho : OIs F s cs (.mk k n b l d)) (j : Nat) (hj : Thing s j cs) (x y : Nat) (hx : x < d.length) (hy : y < d.length) (hd : d.length ≤ 140737488351232) :
    Runs Try.prog lib 75 [.int .i64 x, .int .i64 y, .pointer (some ⟨j, 0, some 6⟩)] s fun v s' => v = .bool (Op.bytesLess d[x].1 d[y].1 || d[x].1 == d[y].1) ∧ s' = s := by
  obtain ⟨bv, lv, dv, lc, dc, rfl, hb, hL, hD, -, -, -, rl, rd⟩ := ho.parts
  refine Runs.enter 19 Try.func75 rfl L.c2 rfl rfl ?_
  intro f hn hf
  have h0 : f.get 0 = .int .i64 x := hf 0
  have h1 : f.get 1 = .int .i64 y := hf 1
  have h2 : f.get 2 = .pointer (some ⟨j, 0, some 6⟩) := hf 2
  clear hf
  have p4 : loadA Try.prog s 24 (.pointer (some ⟨j, 4, some 6⟩)) = some dv := hj.load agDs (off := 4) (c := 6) rfl (by simp)
  have hix := hD.indexAddr (P := Try.prog) (k := .i64) (x := (x : Int)) Try.underlying24 szE (by omega) (by omega)
  have hiy := hD.indexAddr (P := Try.prog) (k := .i64) (x := (y : Int)) Try.underlying24 szE (by omega) (by omega)
  rw [Int.toNat_natCast] at hix hiy
  have hlx := hD.loadField (P := Try.prog) agStr hx (j := 0) (by omega)
  have hly := hD.loadField (P := Try.prog) agStr hy (j := 0) (by omega)
  have key : ∀ z (h : z < d.length), dc.getD (z * 6) undef = .string ⟨(d[z].1).toArray⟩ := fun z h => by
    obtain ⟨r, e, _, _⟩ := rd.row z h
    exact (chunk6 e).1
  rw [Nat.add_zero, key x hx] at hlx
  rw [Nat.add_zero, key y hy] at hly
  obtain ⟨qx, -⟩ := efE hD hx
  obtain ⟨qy, -⟩ := efE hD hy
  simp (config := { maxSteps := 1000000, implicitDefEqProofs := false }) (disch := omega) only [allW, allR, wfn_ret, wfn_normal, oneOf, evalAll, partsA, optA, Nat.reduceLT, Nat.reduceLeDiff, Nat.reduceEqDiff, Nat.reduceAdd, ↓reduceIte, undef, hn, h0, h1, h2, of4, p4, hD.self, hix, hiy, qx, qy, hlx, hly, str_leq, valEq_string, valEq_plus, valEq_int, Try.results75]
theorem zRV : zeroB Try.prog 83 = some (.agg #[.pointer none, .pointer none, .int .u64 0]) := by kernel_rfl
theorem szRV : sizeB Try.prog 83 = some 3 := by kernel_rfl
theorem agRV : isAggB Try.prog 83 = some true := by kernel_rfl
theorem plRV : plainV (.agg #[.pointer none, .pointer none, .int .u64 0]) = true := by kernel_rfl
set_option maxHeartbeats 4000000 in
theorem rises_any {lib : Prims} (L : LibM lib) (F : Nat → Prop) (s : ASt) (k n : Int) (b : List UInt8) (l : List O) (d : List (List UInt8 × O)) (cs : List Value) (ho : OIs F s cs (.mk k n b l d)) (dv : Value) (dc : List Value) (hdv : Sees s 6 dv d.length dc) (j : Nat) (hj : Thing s j cs) (hd : d.length ≤ 140737488351232) :
    Runs Try.prog lib 74 [.iface 24 dv, .func (.func 75) #[] #[.pointer (some ⟨j, 0, some 6⟩)]] s (Ans (∀ i, RisesAt d i) s) := by
  refine Runs.enter 23 Try.func74 rfl L.sorted rfl rfl ?_
  intro f hn hf
  have h0 : f.get 0 = .iface 24 dv := hf 0
  have h1 : f.get 1 = .func (.func 75) #[] #[.pointer (some ⟨j, 0, some 6⟩)] := hf 1
  clear hf
  obtain ⟨a, c, rfl⟩ : ∃ a c, dv = .slice a d.length c := by
    generalize d.length = m at hdv
    cases hdv <;> exact ⟨_, _, rfl⟩
  simp (config := { maxSteps := 1000000, implicitDefEqProofs := false }) (disch := omega) only [allW, allR, oneOf, evalAll, partsA, optA, Nat.reduceLT, Nat.reduceLeDiff, Nat.reduceEqDiff, Nat.reduceAdd, ↓reduceIte, hn, h0, h1]
  obtain ⟨s1, hs1⟩ : ∃ s1, s1 = s.new (.blk ⟨[Value.slice a d.length c], 1, true, 0⟩) := ⟨_, rfl⟩
  have ht1 : Thing s1 s.next [.slice a d.length c] := by rw [hs1]; exact ⟨Nat.lt_succ_self _, 1, 0, blk_new _ _, by simp⟩
  have hst1 : Stay s.next s s1 := by rw [hs1]; exact Stay.new s _
  refine Runs.prim (v := .agg #[.pointer (some ⟨Try.prog.globals.size, 24, none⟩), .pointer (some ⟨s.next, 0, some 2⟩), .int .u64 151]) (s' := s1) L.vo (pValueOf_fr _) ?_ ?_
  · unfold pValueOf
    simp only [Try.underlying24]
    rw [hs1]
    rfl
  have hd3 : [Value.pointer none, .pointer none, .int .u64 0].length + 1 = 4 := rfl
  simp (config := { maxSteps := 1000000, implicitDefEqProofs := false }) (disch := omega) only [allW, allR, oneOf, evalAll, partsA, optA, Nat.reduceLT, Nat.reduceLeDiff, Nat.reduceEqDiff, Nat.reduceAdd, ↓reduceIte, hn, h0, h1, zRV, plRV]
  refine wstep_newPtr ?_
  intro s2 ht2 hst2 hnx2
  simp (config := { maxSteps := 1000000, implicitDefEqProofs := false }) (disch := omega) only [allW, allR, oneOf, evalAll, partsA, optA, Nat.reduceLT, Nat.reduceLeDiff, Nat.reduceEqDiff, Nat.reduceAdd, ↓reduceIte, hn, h0, h1, hd3]
  refine wstep_storeAll szRV (by decide) ht2 rfl rfl rfl rfl ?_
  intro s3 ht3 hnx3 hot3
  have ht3 : Thing s3 s1.next [.pointer (some ⟨Try.prog.globals.size, 24, none⟩), .pointer (some ⟨s.next, 0, some 2⟩), .int .u64 151] := ht3
  have hst23 : Stay s1.next s1 s3 := hst2.trans ⟨by omega, fun j hj => hot3 j (by omega)⟩
  have hs3 : Stay s.next s s3 := hst1.trans (hst23.weaken hst1.next)
  have la := Thing.loadAll (P := Try.prog) (cs := [.pointer (some ⟨Try.prog.globals.size, 24, none⟩), .pointer (some ⟨s.next, 0, some 2⟩), .int .u64 151]) agRV szRV ht3 (c := 4) rfl
  simp (config := { maxSteps := 1000000, implicitDefEqProofs := false }) (disch := omega) only [allW, allR, oneOf, evalAll, partsA, optA, Nat.reduceLT, Nat.reduceLeDiff, Nat.reduceEqDiff, Nat.reduceAdd, ↓reduceIte, hn, h0, h1, la]
  refine Runs.prim (v := .int .i64 (d.length : Nat)) (s' := s3) L.vl (pLen_fr _) ?_ ?_
  · have hl : loadA Try.prog s3 24 (.pointer (some ⟨s.next, 0, some 2⟩)) = some (.slice a d.length c) := (ht1.keeps hst23).load agDs (off := 0) (c := 2) rfl (by simp)
    have hc : (Nat.beq Try.prog.globals.size Try.prog.globals.size && !Try.prog.packed 24 && decide True) = true := by kernel_rfl
    unfold pLen
    simp only [hc, Try.underlying24, hl]
  simp (config := { maxSteps := 1000000, implicitDefEqProofs := false }) (disch := omega) only [allW, allR, oneOf, evalAll, partsA, optA, Nat.reduceLT, Nat.reduceLeDiff, Nat.reduceEqDiff, Nat.reduceAdd, ↓reduceIte, hn, h0, h1, wrapI]
  have hOt := fun (t : ASt) (h : Stay s3.next s3 t) => ho.keeps (hs3.trans (h.weaken hs3.next))
  refine Comes.loopOut (fun z f t => ∃ i : Nat, z = i ∧ i ≤ d.length ∧ (∀ q, i ≤ q + 1 → RisesAt d q) ∧ Stay s3.next s3 t ∧ f.n = 23 ∧ f.get 1 = .func (.func 75) #[] #[.pointer (some ⟨j, 0, some 6⟩)] ∧ f.get 7 = .int .i64 ((i : Int) - 1))
    (fun z f t => (z = .ret ∧ Stay s3.next s3 t ∧ f.n = 23 ∧ f.get 4 = .bool false ∧ ¬ ∀ i, RisesAt d i) ∨ (z = .exit 0 ∧ (∀ i, RisesAt d i) ∧ Stay s3.next s3 t ∧ f.n = 23))
    ⟨d.length, rfl, Nat.le_refl _, fun q h1 h2 => absurd h2 (by omega), Stay.refl _ _, by simp only [get_put, n_put, ↓reduceIte, Nat.reduceEqDiff, hn], by simp only [get_put, n_put, ↓reduceIte, Nat.reduceEqDiff, h1], by simp only [get_put, n_put, ↓reduceIte, Nat.reduceEqDiff]⟩ ?_ ?_
  · clear hn h0 h1 f
    rintro Q hQ i f t ⟨_, rfl, hi, hP, hst, hn, h1, h7⟩
    by_cases hlt : 1 < i
    rotate_left
    · have d1 : ¬ ((i : Int) - 1) > 0 := by omega
      simp (config := { maxSteps := 1000000, implicitDefEqProofs := false }) (disch := omega) only [allW, allR, oneOf, evalAll, partsA, optA, Nat.reduceLT, Nat.reduceLeDiff, Nat.reduceEqDiff, Nat.reduceAdd, ↓reduceIte, hn, h1, h7, eq_false d1]
      exact hQ _ _ _ (.inr ⟨rfl, fun q h => hP q (by omega) h, hst, by simp only [get_put, n_put, ↓reduceIte, Nat.reduceEqDiff, hn]⟩)
    have d1 : ((i : Int) - 1) > 0 := by omega
    obtain ⟨x, rfl⟩ : ∃ x, i = x + 2 := ⟨i - 2, by omega⟩
    have e1 : ((x + 2 : Nat) : Int) - 1 = ((x + 1 : Nat) : Int) := by omega
    have e2 : ((x + 1 : Nat) : Int) - 1 = (x : Int) := by omega
    rw [e1] at h7 d1
    simp (config := { maxSteps := 1000000, implicitDefEqProofs := false }) (disch := omega) only [allW, allR, oneOf, evalAll, partsA, optA, Nat.reduceLT, Nat.reduceLeDiff, Nat.reduceEqDiff, Nat.reduceAdd, ↓reduceIte, hn, h1, h7, eq_true d1, wrapI, e2]
    refine (may2_any L F t k n b l d cs (hOt t hst) j (hj.keeps (hs3.trans (hst.weaken hs3.next))) (x + 1) x (by omega) (by omega) hd).mono ?_
    rintro _ t' ⟨rfl, rfl⟩
    cases hle : (Op.bytesLess d[x + 1].1 d[x].1 || d[x + 1].1 == d[x].1) with
    | true =>
      simp (config := { maxSteps := 1000000, implicitDefEqProofs := false }) (disch := omega) only [allW, allR, oneOf, evalAll, partsA, optA, Nat.reduceLT, Nat.reduceLeDiff, Nat.reduceEqDiff, Nat.reduceAdd, ↓reduceIte, hn, h1, h7]
      exact hQ _ _ _ (.inl ⟨rfl, hst, by simp only [get_put, n_put, ↓reduceIte, Nat.reduceEqDiff, hn], by simp only [get_put, n_put, ↓reduceIte, Nat.reduceEqDiff], fun h => h x (by omega) hle⟩)
    | false =>
      simp (config := { maxSteps := 1000000, implicitDefEqProofs := false }) (disch := omega) only [allW, allR, oneOf, evalAll, partsA, optA, Nat.reduceLT, Nat.reduceLeDiff, Nat.reduceEqDiff, Nat.reduceAdd, ↓reduceIte, hn, h1, h7, wrapI, e2]
      refine wround_next (x + 1) (by omega) ⟨x + 1, rfl, by omega, fun q hq h => ?_, hst, by simp only [get_put, n_put, ↓reduceIte, Nat.reduceEqDiff, hn], by simp only [get_put, n_put, ↓reduceIte, Nat.reduceEqDiff, h1], by simp only [get_put, n_put, ↓reduceIte, Nat.reduceEqDiff]; exact congrArg _ (by omega)⟩
      by_cases hqx : q = x
      · subst hqx
        unfold Rises
        rw [hle]; decide
      · exact hP q (by omega) h
  rintro z f' s6 (⟨rfl, hs, hn', h4, hno⟩ | ⟨rfl, hP, hs, hn'⟩)
  · simp (config := { maxSteps := 1000000, implicitDefEqProofs := false }) (disch := omega) only [allW, allR, wfn_ret, wfn_normal, oneOf, evalAll, partsA, optA, Nat.reduceLT, Nat.reduceLeDiff, Nat.reduceEqDiff, Nat.reduceAdd, ↓reduceIte, hn', h4, Try.results74]
    exact ⟨.no hno, hs3.trans (hs.weaken hs3.next)⟩
  simp (config := { maxSteps := 1000000, implicitDefEqProofs := false }) (disch := omega) only [allW, allR, wfn_ret, wfn_normal, oneOf, evalAll, partsA, optA, Nat.reduceLT, Nat.reduceLeDiff, Nat.reduceEqDiff, Nat.reduceAdd, ↓reduceIte, hn', Try.results74]
  exact ⟨.yes hP, hs3.trans (hs.weaken hs3.next)⟩
theorem some_not {n : Nat} (P : ∀ i, i < n → Prop) : (∃ i, i < n ∧ (if h : i < n then notD (P i h) else false) = true) ↔ ¬ ∀ i h, P i h := by
  constructor
  · rintro ⟨i, hi, h⟩ hall
    rw [dif_pos hi, notD_true] at h
    exact h (hall i hi)
  · intro h
    refine Classical.byContradiction fun hno => h fun i hi => Classical.byContradiction fun hP => hno ⟨i, hi, ?_⟩
    rw [dif_pos hi, notD_true]; exact hP
theorem not_answers {t : Bool} {p q : Prop} (h : t = true ↔ ¬ p) (k : q ↔ p) : ((!t) = true ↔ q) := by
  cases t with
  | true => exact ⟨fun h => by (cases h), fun hq => absurd (k.1 hq) (h.1 rfl)⟩
  | false => exact ⟨fun _ => k.2 (Classical.byContradiction fun hp => Bool.noConfusion (h.2 hp)), fun _ => rfl⟩
set_option maxHeartbeats 16000000 in
theorem may_any {lib : Prims} (L : LibM lib) : ∀ (N : Nat) (o : O), SizeOf.sizeOf o ≤ N → ∀ (F : Nat → Prop) (s : ASt) (cs : List Value) (p : Int), OIs F s cs o → Fit o → 0 ≤ p → p ≤ 1000 →
    Runs Try.prog lib 57 [.agg cs.toArray, .int .i64 p] s (Ans (MayO p o) s) := by
  intro N
  induction N with
  | zero => intro o h; cases o; simp at h
  | succ N ih =>
  intro o hN F s cs p ho hfit hp0 hp1
  have hfit0 := hfit
  have ho0 := ho
  cases o with
  | mk k n b l d =>
  obtain ⟨bv, lv, dv, lc, dc, rfl, hb, hL, hD, -, -, -, rl, rd⟩ := ho.parts
  cases hfit with
  | mk hfb hfl hfd hfK hfL hfD =>
  obtain ⟨QQ, hQQ⟩ : ∃ QQ : Value → ASt → Prop, QQ = Ans (MayO p (.mk k n b l d)) s := ⟨_, rfl⟩
  rw [← hQQ]
  refine Runs.enter 82 Try.func57 rfl L.may rfl rfl ?_
  intro f hn hf
  have h0 : f.get 0 = .agg #[.int .i64 k, .int .i64 n, bv, lv, dv] := hf 0
  have h1 : f.get 1 = .int .i64 p := hf 1
  clear hf
  simp (config := { maxSteps := 1000000, implicitDefEqProofs := false }) (disch := omega) only [allW, allR, oneOf, evalAll, partsA, optA, Nat.reduceLT, Nat.reduceLeDiff, Nat.reduceEqDiff, Nat.reduceAdd, ↓reduceIte, hn, h0, h1]
  refine wstep_newPtr ?_
  intro s1 ht1 hst1 hnx1
  have ht1 : Thing s1 s.next [.int .i64 k, .int .i64 n, bv, lv, dv] := ht1
  simp (config := { maxSteps := 1000000, implicitDefEqProofs := false }) (disch := omega) only [allW, allR, oneOf, evalAll, partsA, optA, Nat.reduceLT, Nat.reduceLeDiff, Nat.reduceEqDiff, Nat.reduceAdd, ↓reduceIte, hn, h0, h1, List.length_cons, List.length_nil]
  refine wstep_newPtr ?_
  intro s2 ht2 hst2 hnx2
  have ht2 : Thing s2 s1.next [.int .i64 p] := ht2
  have h02 := hst1.trans (hst2.weaken hst1.next)
  have la := Thing.loadAll (P := Try.prog) (cs := [.int .i64 k, .int .i64 n, bv, lv, dv]) agO szO (ht1.keeps hst2) (c := 6) rfl
  have hd2 : (Value.int IntKind.i64 p).cells.toList.length + 1 = 2 := rfl
  simp (config := { maxSteps := 1000000, implicitDefEqProofs := false }) (disch := omega) only [allW, allR, oneOf, evalAll, partsA, optA, Nat.reduceLT, Nat.reduceLeDiff, Nat.reduceEqDiff, Nat.reduceAdd, ↓reduceIte, hn, h0, h1, hd2, List.length_cons, List.length_nil, la]
  refine (spare_any L F s2 k n b l d _ (ho0.keeps h02) hfit0).mono ?_
  rintro _ s3 ⟨⟨t, rfl, ht⟩, hs3⟩
  have h03 := h02.trans (hs3.weaken h02.next)
  have t3 := (ht1.keeps hst2).keeps hs3
  have u3 := ht2.keeps hs3
  have o3 := ho0.keeps h03
  have eb := hb.keeps h03
  have eL := hL.keeps h03
  have eD := hD.keeps h03
  have p0 : loadA Try.prog s3 3 (.pointer (some ⟨s.next, 0, some 6⟩)) = some (.int .i64 k) := t3.load agInt (off := 0) (c := 6) rfl (by simp)
  have p1 : loadA Try.prog s3 2 (.pointer (some ⟨s.next, 1, some 6⟩)) = some (.int .i64 n) := t3.load agI64 (off := 1) (c := 6) rfl (by simp)
  have p2 : loadA Try.prog s3 22 (.pointer (some ⟨s.next, 2, some 6⟩)) = some bv := t3.load agSl (off := 2) (c := 6) rfl (by simp)
  have p3 : loadA Try.prog s3 23 (.pointer (some ⟨s.next, 3, some 6⟩)) = some lv := t3.load agLs (off := 3) (c := 6) rfl (by simp)
  have p4 : loadA Try.prog s3 24 (.pointer (some ⟨s.next, 4, some 6⟩)) = some dv := t3.load agDs (off := 4) (c := 6) rfl (by simp)
  have pp : loadA Try.prog s3 3 (.pointer (some ⟨s1.next, 0, some 2⟩)) = some (.int .i64 p) := u3.load agInt (off := 0) (c := 2) rfl (by simp)
  cases t with
  | false =>
    simp (config := { maxSteps := 1000000, implicitDefEqProofs := false }) (disch := omega) only [allW, allR, wfn_ret, wfn_normal, oneOf, evalAll, partsA, optA, Nat.reduceLT, Nat.reduceLeDiff, Nat.reduceEqDiff, Nat.reduceAdd, ↓reduceIte, hn, h0, h1, Bool.not_false, Try.results57]
    rw [hQQ]
    exact ⟨.no (fun h => Bool.noConfusion (ht.2 (spare_of_may h))), h03⟩
  | true =>
  obtain ⟨sn, sb, sl, sd⟩ := ht.1 rfl
  have g1 : l ≠ [] → k = 6 := fun h => by
    have : 0 < l.length := List.length_pos_iff.2 h
    omega
  have g2 : d ≠ [] → k = 7 ∨ k = 8 := fun h => by
    have : 0 < d.length := List.length_pos_iff.2 h
    omega
  have g3 : b ≠ [] → k = 4 ∨ k = 5 ∨ k = 8 := fun h => by
    have : 0 < b.length := List.length_pos_iff.2 h
    omega
  have hend : ∀ (f : AFr) (s6 : ASt) (t : Bool), Stay s.next s s6 → f.n = 82 → f.get 4 = .bool t → (t = true ↔ MayO p (.mk k n b l d)) → wfn Try.prog Try.f57.results.toList QQ .ret f s6 := by
    intro f s6 t hs hn h4 ht
    simp (config := { maxSteps := 1000000, implicitDefEqProofs := false }) (disch := omega) only [allW, allR, wfn_ret, wfn_normal, oneOf, evalAll, partsA, optA, Nat.reduceLT, Nat.reduceLeDiff, Nat.reduceEqDiff, Nat.reduceAdd, ↓reduceIte, hn, h4, Try.results57]
    rw [hQQ]
    exact ⟨⟨t, rfl, ht⟩, hs⟩
  simp (config := { maxSteps := 1000000, implicitDefEqProofs := false }) (disch := omega) only [allW, allR, oneOf, evalAll, partsA, optA, Nat.reduceLT, Nat.reduceLeDiff, Nat.reduceEqDiff, Nat.reduceAdd, ↓reduceIte, hn, h0, h1, Bool.not_true, of0, p0]
  by_cases c0 : k = 0
  · simp (config := { maxSteps := 1000000, implicitDefEqProofs := false }) (disch := omega) only [allW, allR, oneOf, evalAll, partsA, optA, Nat.reduceLT, Nat.reduceLeDiff, Nat.reduceEqDiff, Nat.reduceAdd, ↓reduceIte, undef, hn, h0, h1, eq_true c0]
    exact hend _ _ true h03 (by simp only [get_put, n_put, ↓reduceIte, Nat.reduceEqDiff, hn]) (by simp only [get_put, n_put, ↓reduceIte, Nat.reduceEqDiff]) ⟨fun _ => may_0 g1 g2 g3 c0 (by omega), fun _ => rfl⟩
  by_cases c1 : k = 1
  · simp (config := { maxSteps := 1000000, implicitDefEqProofs := false }) (disch := omega) only [allW, allR, oneOf, evalAll, partsA, optA, Nat.reduceLT, Nat.reduceLeDiff, Nat.reduceEqDiff, Nat.reduceAdd, ↓reduceIte, undef, hn, h0, h1, of1, p1, eq_false c0, eq_true c1]
    refine (within_any L s3 n (0) 1).mono ?_
    rintro _ s4 ⟨⟨t, rfl, ht⟩, hs4⟩
    simp (config := { maxSteps := 1000000, implicitDefEqProofs := false }) (disch := omega) only [allW, allR, oneOf, evalAll, partsA, optA, Nat.reduceLT, Nat.reduceLeDiff, Nat.reduceEqDiff, Nat.reduceAdd, ↓reduceIte, undef, hn, h0, h1]
    exact hend _ _ t (h03.trans (hs4.weaken h03.next)) (by simp only [get_put, n_put, ↓reduceIte, Nat.reduceEqDiff, hn]) (by simp only [get_put, n_put, ↓reduceIte, Nat.reduceEqDiff]) (ht.trans ⟨fun h => (may_1 g1 g2 g3 c1).2 (by omega), fun h => by have := (may_1 g1 g2 g3 c1).1 h; omega⟩)
  by_cases c2 : k = 2
  · simp (config := { maxSteps := 1000000, implicitDefEqProofs := false }) (disch := omega) only [allW, allR, oneOf, evalAll, partsA, optA, Nat.reduceLT, Nat.reduceLeDiff, Nat.reduceEqDiff, Nat.reduceAdd, ↓reduceIte, undef, hn, h0, h1, of1, p1, eq_false c0, eq_false c1, eq_true c2]
    refine (within_any L s3 n (-2147483647) 2147483647).mono ?_
    rintro _ s4 ⟨⟨t, rfl, ht⟩, hs4⟩
    simp (config := { maxSteps := 1000000, implicitDefEqProofs := false }) (disch := omega) only [allW, allR, oneOf, evalAll, partsA, optA, Nat.reduceLT, Nat.reduceLeDiff, Nat.reduceEqDiff, Nat.reduceAdd, ↓reduceIte, undef, hn, h0, h1]
    exact hend _ _ t (h03.trans (hs4.weaken h03.next)) (by simp only [get_put, n_put, ↓reduceIte, Nat.reduceEqDiff, hn]) (by simp only [get_put, n_put, ↓reduceIte, Nat.reduceEqDiff]) (ht.trans ⟨fun h => (may_2 g1 g2 g3 c2).2 (by omega), fun h => by have := (may_2 g1 g2 g3 c2).1 h; omega⟩)
  by_cases c3 : k = 3
  · simp (config := { maxSteps := 1000000, implicitDefEqProofs := false }) (disch := omega) only [allW, allR, oneOf, evalAll, partsA, optA, Nat.reduceLT, Nat.reduceLeDiff, Nat.reduceEqDiff, Nat.reduceAdd, ↓reduceIte, undef, hn, h0, h1, of1, p1, eq_false c0, eq_false c1, eq_false c2, eq_true c3]
    refine (within_any L s3 n (-214748364799999) 214748364799999).mono ?_
    rintro _ s4 ⟨⟨t, rfl, ht⟩, hs4⟩
    simp (config := { maxSteps := 1000000, implicitDefEqProofs := false }) (disch := omega) only [allW, allR, oneOf, evalAll, partsA, optA, Nat.reduceLT, Nat.reduceLeDiff, Nat.reduceEqDiff, Nat.reduceAdd, ↓reduceIte, undef, hn, h0, h1]
    exact hend _ _ t (h03.trans (hs4.weaken h03.next)) (by simp only [get_put, n_put, ↓reduceIte, Nat.reduceEqDiff, hn]) (by simp only [get_put, n_put, ↓reduceIte, Nat.reduceEqDiff]) (ht.trans ⟨fun h => (may_3 g1 g2 g3 c3).2 (by omega), fun h => by have := (may_3 g1 g2 g3 c3).1 h; omega⟩)
  by_cases c9 : k = 9
  · simp (config := { maxSteps := 1000000, implicitDefEqProofs := false }) (disch := omega) only [allW, allR, oneOf, evalAll, partsA, optA, Nat.reduceLT, Nat.reduceLeDiff, Nat.reduceEqDiff, Nat.reduceAdd, ↓reduceIte, undef, hn, h0, h1, of1, p1, eq_false c0, eq_false c1, eq_false c2, eq_false c3, eq_true c9]
    refine (within_any L s3 n (1) 8388607).mono ?_
    rintro _ s4 ⟨⟨t, rfl, ht⟩, hs4⟩
    simp (config := { maxSteps := 1000000, implicitDefEqProofs := false }) (disch := omega) only [allW, allR, oneOf, evalAll, partsA, optA, Nat.reduceLT, Nat.reduceLeDiff, Nat.reduceEqDiff, Nat.reduceAdd, ↓reduceIte, undef, hn, h0, h1]
    exact hend _ _ t (h03.trans (hs4.weaken h03.next)) (by simp only [get_put, n_put, ↓reduceIte, Nat.reduceEqDiff, hn]) (by simp only [get_put, n_put, ↓reduceIte, Nat.reduceEqDiff]) (ht.trans ⟨fun h => (may_9 g1 g2 g3 c9).2 (by omega), fun h => by have := (may_9 g1 g2 g3 c9).1 h; omega⟩)
  have hz : n = 0 := by omega
  by_cases c4 : k = 4
  · simp (config := { maxSteps := 1000000, implicitDefEqProofs := false }) (disch := omega) only [allW, allR, oneOf, evalAll, partsA, optA, Nat.reduceLT, Nat.reduceLeDiff, Nat.reduceEqDiff, Nat.reduceAdd, ↓reduceIte, undef, hn, h0, h1, of2, p2, eb.lenA Try.underlying22, eq_false c0, eq_false c1, eq_false c2, eq_false c3, eq_false c9, eq_true c4]
    exact hend _ _ (decide (((b.length : Nat) : Int) ≤ 32767)) h03 (by simp only [get_put, n_put, ↓reduceIte, Nat.reduceEqDiff, hn]) (by simp only [get_put, n_put, ↓reduceIte, Nat.reduceEqDiff]) ⟨fun h => (may_4 g1 g2 g3 c4 hz).2 (by have := of_decide_eq_true h; omega), fun h => decide_eq_true (by have := (may_4 g1 g2 g3 c4 hz).1 h; omega)⟩
  by_cases c5 : k = 5
  · have hc := eb.str (P := Try.prog) Try.underlying22 Try.underlying9 Try.underlying5
    simp (config := { maxSteps := 1000000, implicitDefEqProofs := false }) (disch := omega) only [allW, allR, oneOf, evalAll, partsA, optA, Nat.reduceLT, Nat.reduceLeDiff, Nat.reduceEqDiff, Nat.reduceAdd, ↓reduceIte, undef, hn, h0, h1, of2, p2, hc, eq_false c0, eq_false c1, eq_false c2, eq_false c3, eq_false c9, eq_false c4, eq_true c5]
    refine (nameB_any L s3 b (by omega)).mono ?_
    rintro _ s4 ⟨⟨t, rfl, ht⟩, hs4⟩
    simp (config := { maxSteps := 1000000, implicitDefEqProofs := false }) (disch := omega) only [allW, allR, oneOf, evalAll, partsA, optA, Nat.reduceLT, Nat.reduceLeDiff, Nat.reduceEqDiff, Nat.reduceAdd, ↓reduceIte, undef, hn, h0, h1]
    exact hend _ _ t (h03.trans (hs4.weaken h03.next)) (by simp only [get_put, n_put, ↓reduceIte, Nat.reduceEqDiff, hn]) (by simp only [get_put, n_put, ↓reduceIte, Nat.reduceEqDiff]) (ht.trans (may_5 g1 g2 g3 c5 hz).symm)
  by_cases c6 : k = 6
  · by_cases cp : p > 0
    rotate_left
    · simp (config := { maxSteps := 1000000, implicitDefEqProofs := false }) (disch := omega) only [allW, allR, oneOf, evalAll, partsA, optA, Nat.reduceLT, Nat.reduceLeDiff, Nat.reduceEqDiff, Nat.reduceAdd, ↓reduceIte, undef, hn, h0, h1, pp, eq_false cp, eq_false c0, eq_false c1, eq_false c2, eq_false c3, eq_false c9, eq_false c4, eq_false c5, eq_true c6]
      exact hend _ _ false h03 (by simp only [get_put, n_put, ↓reduceIte, Nat.reduceEqDiff, hn]) (by simp only [get_put, n_put, ↓reduceIte, Nat.reduceEqDiff]) ⟨fun h => by (cases h), fun h => absurd ((may_6 g1 g2 g3 c6 hz).1 h).1 (by omega)⟩
    simp (config := { maxSteps := 1000000, implicitDefEqProofs := false }) (disch := omega) only [allW, allR, oneOf, evalAll, partsA, optA, Nat.reduceLT, Nat.reduceLeDiff, Nat.reduceEqDiff, Nat.reduceAdd, ↓reduceIte, undef, hn, h0, h1, pp, of3, p3, aop_makeFunc, eq_true cp, eq_false c0, eq_false c1, eq_false c2, eq_false c3, eq_false c9, eq_false c4, eq_false c5, eq_true c6]
    refine (containsO L 72 [.pointer (some ⟨s1.next, 0, some 2⟩)] s3 lv l.length lc eL (by omega) (fun i => if h : i < l.length then notD (l[i].kind ≠ 8 ∧ MayO (p - 1) l[i]) else false) (fun i hi s4 h4 => ?_)).mono ?_
    · rw [dif_pos hi]
      have hoi := (rl.row i hi).keeps (h03.trans (h4.weaken h03.next))
      exact may1_any L F s4 _ l[i] p s1.next (u3.keeps h4) (by omega) hp1 hoi (fun s5 h5 => ih l[i] (by have := O.items_lt (k := k) (n := n) (b := b) (l := l) (d := d) (List.getElem_mem hi); omega) F s5 _ (p - 1) (hoi.keeps h5) (hfL _ (List.getElem_mem hi)) (by omega) (by omega))
    rintro _ s4 ⟨⟨t, rfl, ht⟩, hs4⟩
    simp (config := { maxSteps := 1000000, implicitDefEqProofs := false }) (disch := omega) only [allW, allR, oneOf, evalAll, partsA, optA, Nat.reduceLT, Nat.reduceLeDiff, Nat.reduceEqDiff, Nat.reduceAdd, ↓reduceIte, undef, hn, h0, h1]
    exact hend _ _ (!t) (h03.trans (hs4.weaken h03.next)) (by simp only [get_put, n_put, ↓reduceIte, Nat.reduceEqDiff, hn]) (by simp only [get_put, n_put, ↓reduceIte, Nat.reduceEqDiff]) (not_answers (ht.trans (some_not fun i (h : i < l.length) => l[i].kind ≠ 8 ∧ MayO (p - 1) l[i])) ((may_6 g1 g2 g3 c6 hz).trans ⟨fun h => h.2, fun h => ⟨by omega, h⟩⟩))
  by_cases c7 : k = 7
  · simp (config := { maxSteps := 1000000, implicitDefEqProofs := false }) (disch := omega) only [allW, allR, oneOf, evalAll, partsA, optA, Nat.reduceLT, Nat.reduceLeDiff, Nat.reduceEqDiff, Nat.reduceAdd, ↓reduceIte, undef, hn, h0, h1, of4, p4, aop_makeFunc, aop_makeInterface, Try.underlying24, eq_false c0, eq_false c1, eq_false c2, eq_false c3, eq_false c9, eq_false c4, eq_false c5, eq_false c6, eq_true c7]
    refine (rises_any L F s3 k n b l d _ o3 dv dc eD s.next t3 (by omega)).mono ?_
    rintro _ s4 ⟨⟨r, rfl, hr⟩, hs4⟩
    have h04 := h03.trans (hs4.weaken h03.next)
    have t4 := t3.keeps hs4
    have u4 := u3.keeps hs4
    have eb4 := eb.keeps hs4
    have eD4 := eD.keeps hs4
    have q2 : loadA Try.prog s4 22 (.pointer (some ⟨s.next, 2, some 6⟩)) = some bv := t4.load agSl (off := 2) (c := 6) rfl (by simp)
    have q4 : loadA Try.prog s4 24 (.pointer (some ⟨s.next, 4, some 6⟩)) = some dv := t4.load agDs (off := 4) (c := 6) rfl (by simp)
    have qp : loadA Try.prog s4 3 (.pointer (some ⟨s1.next, 0, some 2⟩)) = some (.int .i64 p) := u4.load agInt (off := 0) (c := 2) rfl (by simp)
    by_cases cp : p > 0
    rotate_left
    · simp (config := { maxSteps := 1000000, implicitDefEqProofs := false }) (disch := omega) only [allW, allR, oneOf, evalAll, partsA, optA, Nat.reduceLT, Nat.reduceLeDiff, Nat.reduceEqDiff, Nat.reduceAdd, ↓reduceIte, undef, hn, h0, h1, qp, eq_false cp]
      exact hend _ _ false h04 (by simp only [get_put, n_put, ↓reduceIte, Nat.reduceEqDiff, hn]) (by simp only [get_put, n_put, ↓reduceIte, Nat.reduceEqDiff]) ⟨fun h => by (cases h), fun h => absurd ((may_7 g1 g2 g3 (by omega) hz).1 h).1.1 (by omega)⟩
    cases r with
    | false =>
      simp (config := { maxSteps := 1000000, implicitDefEqProofs := false }) (disch := omega) only [allW, allR, oneOf, evalAll, partsA, optA, Nat.reduceLT, Nat.reduceLeDiff, Nat.reduceEqDiff, Nat.reduceAdd, ↓reduceIte, undef, hn, h0, h1, qp, eq_true cp]
      exact hend _ _ false h04 (by simp only [get_put, n_put, ↓reduceIte, Nat.reduceEqDiff, hn]) (by simp only [get_put, n_put, ↓reduceIte, Nat.reduceEqDiff]) ⟨fun h => by (cases h), fun h => absurd (hr.2 ((may_7 g1 g2 g3 (by omega) hz).1 h).2.2) (by decide)⟩
    | true =>
    by_cases cb : ((b.length : Nat) : Int) ≤ 16777216
    rotate_left
    · simp (config := { maxSteps := 1000000, implicitDefEqProofs := false }) (disch := omega) only [allW, allR, oneOf, evalAll, partsA, optA, Nat.reduceLT, Nat.reduceLeDiff, Nat.reduceEqDiff, Nat.reduceAdd, ↓reduceIte, undef, hn, h0, h1, qp, eq_true cp, of2, q2, eb4.lenA Try.underlying22, eq_false cb]
      exact hend _ _ false h04 (by simp only [get_put, n_put, ↓reduceIte, Nat.reduceEqDiff, hn]) (by simp only [get_put, n_put, ↓reduceIte, Nat.reduceEqDiff]) ⟨fun h => by (cases h), fun h => absurd ((may_7 g1 g2 g3 (by omega) hz).1 h).1.2 (by omega)⟩
    simp (config := { maxSteps := 1000000, implicitDefEqProofs := false }) (disch := omega) only [allW, allR, oneOf, evalAll, partsA, optA, Nat.reduceLT, Nat.reduceLeDiff, Nat.reduceEqDiff, Nat.reduceAdd, ↓reduceIte, undef, hn, h0, h1, qp, eq_true cp, of2, of4, q2, q4, eb4.lenA Try.underlying22, eq_true cb, aop_makeFunc]
    refine (containsE L 77 [.pointer (some ⟨s1.next, 0, some 2⟩)] s4 dv d.length dc eD4 (by omega) (fun i => if h : i < d.length then notD ((NameB d[i].1 ∧ d[i].2.kind ≠ 8 ∧ d[i].2.kind ≠ 0) ∧ MayO (p - 1) d[i].2) else false) (fun i hi s5 h5 => ?_)).mono ?_
    · rw [dif_pos hi]
      have hei : EntIs F s5 ((dc.drop (i * 6)).take 6) d[i] := (rd.row i hi).keeps (h04.trans (h5.weaken h04.next))
      exact may3_any L F s5 _ d[i] p s1.next (u4.keeps h5) (by omega) hp1 hei (fun r' s6 h6 _ => ih d[i].2 (by have := O.ents_lt (k := k) (n := n) (b := b) (l := l) (d := d) (List.getElem_mem hi); omega) F s6 r' (p - 1) h6 (hfD _ (List.getElem_mem hi)) (by omega) (by omega))
    rintro _ s5 ⟨⟨t, rfl, ht⟩, hs5⟩
    simp (config := { maxSteps := 1000000, implicitDefEqProofs := false }) (disch := omega) only [allW, allR, oneOf, evalAll, partsA, optA, Nat.reduceLT, Nat.reduceLeDiff, Nat.reduceEqDiff, Nat.reduceAdd, ↓reduceIte, undef, hn, h0, h1]
    exact hend _ _ (!t) (h04.trans (hs5.weaken h04.next)) (by simp only [get_put, n_put, ↓reduceIte, Nat.reduceEqDiff, hn]) (by simp only [get_put, n_put, ↓reduceIte, Nat.reduceEqDiff]) (not_answers (ht.trans (some_not fun i (h : i < d.length) => (NameB d[i].1 ∧ d[i].2.kind ≠ 8 ∧ d[i].2.kind ≠ 0) ∧ MayO (p - 1) d[i].2)) ((may_7 g1 g2 g3 (by omega) hz).trans ⟨fun h => h.2.1, fun h => ⟨⟨by omega, by omega⟩, h, hr.1 rfl⟩⟩))
  by_cases c8 : k = 8
  · simp (config := { maxSteps := 1000000, implicitDefEqProofs := false }) (disch := omega) only [allW, allR, oneOf, evalAll, partsA, optA, Nat.reduceLT, Nat.reduceLeDiff, Nat.reduceEqDiff, Nat.reduceAdd, ↓reduceIte, undef, hn, h0, h1, of4, p4, aop_makeFunc, aop_makeInterface, Try.underlying24, eq_false c0, eq_false c1, eq_false c2, eq_false c3, eq_false c9, eq_false c4, eq_false c5, eq_false c6, eq_false c7, eq_true c8]
    refine (rises_any L F s3 k n b l d _ o3 dv dc eD s.next t3 (by omega)).mono ?_
    rintro _ s4 ⟨⟨r, rfl, hr⟩, hs4⟩
    have h04 := h03.trans (hs4.weaken h03.next)
    have t4 := t3.keeps hs4
    have u4 := u3.keeps hs4
    have eb4 := eb.keeps hs4
    have eD4 := eD.keeps hs4
    have q2 : loadA Try.prog s4 22 (.pointer (some ⟨s.next, 2, some 6⟩)) = some bv := t4.load agSl (off := 2) (c := 6) rfl (by simp)
    have q4 : loadA Try.prog s4 24 (.pointer (some ⟨s.next, 4, some 6⟩)) = some dv := t4.load agDs (off := 4) (c := 6) rfl (by simp)
    have qp : loadA Try.prog s4 3 (.pointer (some ⟨s1.next, 0, some 2⟩)) = some (.int .i64 p) := u4.load agInt (off := 0) (c := 2) rfl (by simp)
    by_cases cp : p > 0
    rotate_left
    · simp (config := { maxSteps := 1000000, implicitDefEqProofs := false }) (disch := omega) only [allW, allR, oneOf, evalAll, partsA, optA, Nat.reduceLT, Nat.reduceLeDiff, Nat.reduceEqDiff, Nat.reduceAdd, ↓reduceIte, undef, hn, h0, h1, qp, eq_false cp]
      exact hend _ _ false h04 (by simp only [get_put, n_put, ↓reduceIte, Nat.reduceEqDiff, hn]) (by simp only [get_put, n_put, ↓reduceIte, Nat.reduceEqDiff]) ⟨fun h => by (cases h), fun h => absurd ((may_7 g1 g2 g3 (by omega) hz).1 h).1.1 (by omega)⟩
    cases r with
    | false =>
      simp (config := { maxSteps := 1000000, implicitDefEqProofs := false }) (disch := omega) only [allW, allR, oneOf, evalAll, partsA, optA, Nat.reduceLT, Nat.reduceLeDiff, Nat.reduceEqDiff, Nat.reduceAdd, ↓reduceIte, undef, hn, h0, h1, qp, eq_true cp]
      exact hend _ _ false h04 (by simp only [get_put, n_put, ↓reduceIte, Nat.reduceEqDiff, hn]) (by simp only [get_put, n_put, ↓reduceIte, Nat.reduceEqDiff]) ⟨fun h => by (cases h), fun h => absurd (hr.2 ((may_7 g1 g2 g3 (by omega) hz).1 h).2.2) (by decide)⟩
    | true =>
    by_cases cb : ((b.length : Nat) : Int) ≤ 16777216
    rotate_left
    · simp (config := { maxSteps := 1000000, implicitDefEqProofs := false }) (disch := omega) only [allW, allR, oneOf, evalAll, partsA, optA, Nat.reduceLT, Nat.reduceLeDiff, Nat.reduceEqDiff, Nat.reduceAdd, ↓reduceIte, undef, hn, h0, h1, qp, eq_true cp, of2, q2, eb4.lenA Try.underlying22, eq_false cb]
      exact hend _ _ false h04 (by simp only [get_put, n_put, ↓reduceIte, Nat.reduceEqDiff, hn]) (by simp only [get_put, n_put, ↓reduceIte, Nat.reduceEqDiff]) ⟨fun h => by (cases h), fun h => absurd ((may_7 g1 g2 g3 (by omega) hz).1 h).1.2 (by omega)⟩
    simp (config := { maxSteps := 1000000, implicitDefEqProofs := false }) (disch := omega) only [allW, allR, oneOf, evalAll, partsA, optA, Nat.reduceLT, Nat.reduceLeDiff, Nat.reduceEqDiff, Nat.reduceAdd, ↓reduceIte, undef, hn, h0, h1, qp, eq_true cp, of2, of4, q2, q4, eb4.lenA Try.underlying22, eq_true cb, aop_makeFunc]
    refine (containsE L 77 [.pointer (some ⟨s1.next, 0, some 2⟩)] s4 dv d.length dc eD4 (by omega) (fun i => if h : i < d.length then notD ((NameB d[i].1 ∧ d[i].2.kind ≠ 8 ∧ d[i].2.kind ≠ 0) ∧ MayO (p - 1) d[i].2) else false) (fun i hi s5 h5 => ?_)).mono ?_
    · rw [dif_pos hi]
      have hei : EntIs F s5 ((dc.drop (i * 6)).take 6) d[i] := (rd.row i hi).keeps (h04.trans (h5.weaken h04.next))
      exact may3_any L F s5 _ d[i] p s1.next (u4.keeps h5) (by omega) hp1 hei (fun r' s6 h6 _ => ih d[i].2 (by have := O.ents_lt (k := k) (n := n) (b := b) (l := l) (d := d) (List.getElem_mem hi); omega) F s6 r' (p - 1) h6 (hfD _ (List.getElem_mem hi)) (by omega) (by omega))
    rintro _ s5 ⟨⟨t, rfl, ht⟩, hs5⟩
    simp (config := { maxSteps := 1000000, implicitDefEqProofs := false }) (disch := omega) only [allW, allR, oneOf, evalAll, partsA, optA, Nat.reduceLT, Nat.reduceLeDiff, Nat.reduceEqDiff, Nat.reduceAdd, ↓reduceIte, undef, hn, h0, h1]
    exact hend _ _ (!t) (h04.trans (hs5.weaken h04.next)) (by simp only [get_put, n_put, ↓reduceIte, Nat.reduceEqDiff, hn]) (by simp only [get_put, n_put, ↓reduceIte, Nat.reduceEqDiff]) (not_answers (ht.trans (some_not fun i (h : i < d.length) => (NameB d[i].1 ∧ d[i].2.kind ≠ 8 ∧ d[i].2.kind ≠ 0) ∧ MayO (p - 1) d[i].2)) ((may_7 g1 g2 g3 (by omega) hz).trans ⟨fun h => h.2.1, fun h => ⟨⟨by omega, by omega⟩, h, hr.1 rfl⟩⟩))
  simp (config := { maxSteps := 1000000, implicitDefEqProofs := false }) (disch := omega) only [allW, allR, oneOf, evalAll, partsA, optA, Nat.reduceLT, Nat.reduceLeDiff, Nat.reduceEqDiff, Nat.reduceAdd, ↓reduceIte, undef, hn, h0, h1, eq_false c0, eq_false c1, eq_false c2, eq_false c3, eq_false c9, eq_false c4, eq_false c5, eq_false c6, eq_false c7, eq_false c8]
  exact hend _ _ false h03 (by simp only [get_put, n_put, ↓reduceIte, Nat.reduceEqDiff, hn]) (by simp only [get_put, n_put, ↓reduceIte, Nat.reduceEqDiff]) ⟨fun h => by (cases h), fun h => by have := may_k h; omega⟩
theorem mayTop_any {lib : Prims} (L : LibM lib) (hl : lib.at 32 = none) (o : O) (F : Nat → Prop) (s : ASt) (cs : List Value) (ho : OIs F s cs o) (hf : Fit o) :
    Runs Try.prog lib 32 [.agg cs.toArray] s (Ans (MayO 28 o) s) := by
  have hcl := ho.len
  refine Runs.enter 5 Try.func32 rfl hl rfl rfl ?_
  intro f hn hf
  have h0 : f.get 0 = .agg cs.toArray := hf 0
  clear hf
  simp (config := { maxSteps := 1000000, implicitDefEqProofs := false }) (disch := omega) only [allW, allR, oneOf, evalAll, partsA, optA, Nat.reduceLT, Nat.reduceLeDiff, Nat.reduceEqDiff, Nat.reduceAdd, ↓reduceIte, hn, h0]
  refine wstep_newPtr ?_
  intro s1 ht1 hst1 hnx1
  simp (config := { maxSteps := 1000000, implicitDefEqProofs := false }) (disch := omega) only [allW, allR, oneOf, evalAll, partsA, optA, Nat.reduceLT, Nat.reduceLeDiff, Nat.reduceEqDiff, Nat.reduceAdd, ↓reduceIte, hn, h0, hcl, Thing.loadO ht1 hcl]
  refine (may_any L _ o (Nat.le_refl _) F s1 cs 28 (ho.keeps hst1) hf (by omega) (by omega)).mono ?_
  rintro v s2 ⟨⟨t, rfl, h⟩, hs2⟩
  simp (config := { maxSteps := 1000000, implicitDefEqProofs := false }) (disch := omega) only [allW, allR, wfn_ret, wfn_normal, oneOf, evalAll, partsA, optA, Nat.reduceLT, Nat.reduceLeDiff, Nat.reduceEqDiff, Nat.reduceAdd, ↓reduceIte, hn, Try.results32]
  exact ⟨⟨t, rfl, h⟩, hst1.trans (hs2.weaken hst1.next)⟩
end Go.Proofs.Ytdhdhbkikhedlaa
