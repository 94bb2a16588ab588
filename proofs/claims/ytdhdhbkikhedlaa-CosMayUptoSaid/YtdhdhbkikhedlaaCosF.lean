/-
  Objects: keys compared, slices.IndexFunc, Clone, DeleteFunc of entries.
-/
import Derived.Test.YtdhdhbkikhedlaaCosE
import Derived.Test.YtdhdhbkikhedlaaObjT
import Derived.Test.YtdhdhbkikhedlaaClearW
set_option linter.unusedSimpArgs false
set_option linter.unusedVariables false
set_option maxRecDepth 100000
namespace Go.Cl
theorem aop_makeFunc {P : Program} {d : Option Tmp} {ty : TypeId} {ps : String} {af : Array Edge} {gd : Option (Nat × Bool)} {f : AFr} {s : ASt} (g : FuncId) (xs bs : Array Operand) : aop P ⟨d, .makeFunc (.func g) xs bs, ty, ps, af, gd⟩ f s = match evalAll f xs.toList, evalAll f bs.toList with
    | some l, some m => some (.val (.func (.func g) l.toArray m.toArray) s)
    | _, _ => none := rfl
def FirstAt (p : Nat → Bool) (n : Nat) (r : Int) : Prop := (r = -1 ∧ ∀ i, i < n → p i = false) ∨ ∃ k, k < n ∧ r = (k : Nat) ∧ p k = true ∧ ∀ i, i < k → p i = false
end Go.Cl
namespace Go.Proofs.Ytdhdhbkikhedlaa
open Go.Cl Go.Lib
def Compared (s : ASt) (a b : List UInt8) (v : Value) (s' : ASt) : Prop := v = .int .i64 (compareBytes a b) ∧ Stay s.next s s'
theorem compareS_any {lib : Prims} (hl : lib.at 78 = none) (hp : lib.at 83 = some pCmpStr) (s : ASt) (a b : List UInt8) :
    Runs Try.prog lib 78 [.string ⟨a.toArray⟩, .string ⟨b.toArray⟩] s (Compared s a b) := by
  refine Runs.enter 8 Try.func78 rfl hl rfl rfl ?_
  intro f hn hf
  have h0 : f.get 0 = .string ⟨a.toArray⟩ := hf 0
  have h1 : f.get 1 = .string ⟨b.toArray⟩ := hf 1
  clear hf
  simp (config := { maxSteps := 1000000, implicitDefEqProofs := false }) (disch := omega) only [allW, allR, oneOf, evalAll, partsA, optA, Nat.reduceLT, Nat.reduceLeDiff, Nat.reduceEqDiff, Nat.reduceAdd, ↓reduceIte, hn, h0, h1]
  refine Runs.prim (v := .int .i64 (compareBytes a b)) (s' := s) hp pCmpStr_fr ?_ ?_
  · show some (Value.int .i64 (Extern.BytealgCompare.cmp ⟨a.toArray⟩ ⟨b.toArray⟩), s) = _
    rw [cmp_eq]
  simp (config := { maxSteps := 1000000, implicitDefEqProofs := false }) (disch := omega) only [allW, allR, wfn_ret, wfn_normal, oneOf, evalAll, partsA, optA, Nat.reduceLT, Nat.reduceLeDiff, Nat.reduceEqDiff, Nat.reduceAdd, ↓reduceIte, hn, Try.results78]
  exact ⟨rfl, Stay.refl _ _⟩
theorem compare_any {lib : Prims} (hl : lib.at 67 = none) (hlc : lib.at 78 = none) (hp : lib.at 83 = some pCmpStr) (s : ASt) (a b : List UInt8) :
    Runs Try.prog lib 67 [.string ⟨a.toArray⟩, .string ⟨b.toArray⟩] s (Compared s a b) := by
  refine Runs.enter 8 Try.func67 rfl hl rfl rfl ?_
  intro f hn hf
  have h0 : f.get 0 = .string ⟨a.toArray⟩ := hf 0
  have h1 : f.get 1 = .string ⟨b.toArray⟩ := hf 1
  clear hf
  simp (config := { maxSteps := 1000000, implicitDefEqProofs := false }) (disch := omega) only [allW, allR, oneOf, evalAll, partsA, optA, Nat.reduceLT, Nat.reduceLeDiff, Nat.reduceEqDiff, Nat.reduceAdd, ↓reduceIte, hn, h0, h1]
  refine (compareS_any hlc hp s a b).mono ?_
  rintro _ s3 ⟨rfl, hs3⟩
  simp (config := { maxSteps := 1000000, implicitDefEqProofs := false }) (disch := omega) only [allW, allR, wfn_ret, wfn_normal, oneOf, evalAll, partsA, optA, Nat.reduceLT, Nat.reduceLeDiff, Nat.reduceEqDiff, Nat.reduceAdd, ↓reduceIte, hn, Try.results67]
  exact ⟨rfl, hs3⟩
theorem byKey_any {lib : Prims} (hl : lib.at 48 = none) (hl1 : lib.at 67 = none) (hlc : lib.at 78 = none) (hp : lib.at 83 = some pCmpStr) (s : ASt) (a b : List UInt8) (r1 r2 : List Value) (q1 : r1.length = 5) (q2 : r2.length = 5) :
    Runs Try.prog lib 48 [.agg (.string ⟨a.toArray⟩ :: r1).toArray, .agg (.string ⟨b.toArray⟩ :: r2).toArray] s (Compared s a b) := by
  refine Runs.enter 10 Try.func48 rfl hl rfl rfl ?_
  intro f hn hf
  have h0 : f.get 0 = .agg (.string ⟨a.toArray⟩ :: r1).toArray := hf 0
  have h1 : f.get 1 = .agg (.string ⟨b.toArray⟩ :: r2).toArray := hf 1
  clear hf
  simp (config := { maxSteps := 1000000, implicitDefEqProofs := false }) (disch := omega) only [allW, allR, oneOf, evalAll, partsA, optA, Nat.reduceLT, Nat.reduceLeDiff, Nat.reduceEqDiff, Nat.reduceAdd, ↓reduceIte, hn, h0, h1]
  refine wstep_newPtr ?_
  intro s1 ht1 hst1 hnx1
  simp (config := { maxSteps := 1000000, implicitDefEqProofs := false }) (disch := omega) only [allW, allR, oneOf, evalAll, partsA, optA, Nat.reduceLT, Nat.reduceLeDiff, Nat.reduceEqDiff, Nat.reduceAdd, ↓reduceIte, hn, h0, h1, List.length_cons, q1]
  refine wstep_newPtr ?_
  intro s2 ht2 hst2 hnx2
  have ht1 := ht1.keeps hst2
  have hs2 : Stay s.next s s2 := hst1.trans (hst2.weaken (by omega))
  have l1 : loadA Try.prog s2 9 (.pointer (some ⟨s.next, 0, some 7⟩)) = some (.string ⟨a.toArray⟩) := ht1.load agStr (off := 0) (c := 7) (by simp [q1]) (by simp)
  have l2 : loadA Try.prog s2 9 (.pointer (some ⟨s1.next, 0, some 7⟩)) = some (.string ⟨b.toArray⟩) := ht2.load agStr (off := 0) (c := 7) (by simp [q2]) (by simp)
  simp (config := { maxSteps := 1000000, implicitDefEqProofs := false }) (disch := omega) only [allW, allR, oneOf, evalAll, partsA, optA, Nat.reduceLT, Nat.reduceLeDiff, Nat.reduceEqDiff, Nat.reduceAdd, ↓reduceIte, hn, h0, h1, List.length_cons, q1, q2, ofE0, l1, l2]
  refine (compare_any hl1 hlc hp s2 a b).mono ?_
  rintro _ s3 ⟨rfl, hs3⟩
  simp (config := { maxSteps := 1000000, implicitDefEqProofs := false }) (disch := omega) only [allW, allR, wfn_ret, wfn_normal, oneOf, evalAll, partsA, optA, Nat.reduceLT, Nat.reduceLeDiff, Nat.reduceEqDiff, Nat.reduceAdd, ↓reduceIte, hn, Try.results48]
  exact ⟨rfl, hs2.trans (hs3.weaken hs2.next)⟩
theorem agFn : isAggB Try.prog 58 = some false := by kernel_rfl
def Bools (s : ASt) (t : Bool) (v : Value) (s' : ASt) : Prop := v = .bool t ∧ Stay s.next s s'
theorem clo1 {lib : Prims} (hl : lib.at 63 = none) (hlk : lib.at 48 = none) (hl1 : lib.at 67 = none) (hlc : lib.at 78 = none) (hp : lib.at 83 = some pCmpStr) (s : ASt) (a b : List UInt8) (r1 r2 : List Value) (q1 : r1.length = 5) (q2 : r2.length = 5) (i j : Nat)
    (hi : Thing s i [.func (.func 48) #[] #[]]) (hj : Thing s j (.string ⟨b.toArray⟩ :: r2)) :
    Runs Try.prog lib 63 [.agg (.string ⟨a.toArray⟩ :: r1).toArray, .pointer (some ⟨i, 0, some 2⟩), .pointer (some ⟨j, 0, some 7⟩)] s (Bools s (decide (0 ≤ compareBytes a b))) := by
  refine Runs.enter 10 Try.func63 rfl hl rfl rfl ?_
  intro f hn hf
  have h0 : f.get 0 = .agg (.string ⟨a.toArray⟩ :: r1).toArray := hf 0
  have h1 : f.get 1 = .pointer (some ⟨i, 0, some 2⟩) := hf 1
  have h2 : f.get 2 = .pointer (some ⟨j, 0, some 7⟩) := hf 2
  clear hf
  simp (config := { maxSteps := 1000000, implicitDefEqProofs := false }) (disch := omega) only [allW, allR, oneOf, evalAll, partsA, optA, Nat.reduceLT, Nat.reduceLeDiff, Nat.reduceEqDiff, Nat.reduceAdd, ↓reduceIte, hn, h0, h1, h2]
  refine wstep_newPtr ?_
  intro s1 ht1 hst1 hnx1
  have hi := hi.keeps hst1
  have hj := hj.keeps hst1
  have l0 : loadA Try.prog s1 58 (.pointer (some ⟨i, 0, some 2⟩)) = some (.func (.func 48) #[] #[]) := hi.load agFn (off := 0) (c := 2) rfl (by simp)
  have l1 : loadA Try.prog s1 32 (.pointer (some ⟨s.next, 0, some 7⟩)) = some (.agg (.string ⟨a.toArray⟩ :: r1).toArray) := Thing.loadAll agE (by simp [q1, szE]) ht1 (by simp [q1])
  have l2 : loadA Try.prog s1 32 (.pointer (some ⟨j, 0, some 7⟩)) = some (.agg (.string ⟨b.toArray⟩ :: r2).toArray) := Thing.loadAll agE (by simp [q2, szE]) hj (by simp [q2])
  simp (config := { maxSteps := 1000000, implicitDefEqProofs := false }) (disch := omega) only [allW, allR, oneOf, evalAll, partsA, optA, Nat.reduceLT, Nat.reduceLeDiff, Nat.reduceEqDiff, Nat.reduceAdd, ↓reduceIte, hn, h0, h1, h2, List.length_cons, q1, q2, l0, l1, l2]
  refine (byKey_any hlk hl1 hlc hp s1 a b r1 r2 q1 q2).mono ?_
  rintro _ s3 ⟨rfl, hs3⟩
  simp (config := { maxSteps := 1000000, implicitDefEqProofs := false }) (disch := omega) only [allW, allR, wfn_ret, wfn_normal, oneOf, evalAll, partsA, optA, Nat.reduceLT, Nat.reduceLeDiff, Nat.reduceEqDiff, Nat.reduceAdd, ↓reduceIte, hn, ge_iff_le, Try.results63]
  exact ⟨rfl, hst1.trans (hs3.weaken hst1.next)⟩
theorem clo2 {lib : Prims} (hl : lib.at 64 = none) (hlk : lib.at 48 = none) (hl1 : lib.at 67 = none) (hlc : lib.at 78 = none) (hp : lib.at 83 = some pCmpStr) (s : ASt) (a b : List UInt8) (r1 r2 : List Value) (q1 : r1.length = 5) (q2 : r2.length = 5) (i j : Nat)
    (hi : Thing s i [.func (.func 48) #[] #[]]) (hj : Thing s j (.string ⟨b.toArray⟩ :: r2)) :
    Runs Try.prog lib 64 [.agg (.string ⟨a.toArray⟩ :: r1).toArray, .pointer (some ⟨i, 0, some 2⟩), .pointer (some ⟨j, 0, some 7⟩)] s (Bools s (decide (compareBytes a b = 0))) := by
  refine Runs.enter 10 Try.func64 rfl hl rfl rfl ?_
  intro f hn hf
  have h0 : f.get 0 = .agg (.string ⟨a.toArray⟩ :: r1).toArray := hf 0
  have h1 : f.get 1 = .pointer (some ⟨i, 0, some 2⟩) := hf 1
  have h2 : f.get 2 = .pointer (some ⟨j, 0, some 7⟩) := hf 2
  clear hf
  simp (config := { maxSteps := 1000000, implicitDefEqProofs := false }) (disch := omega) only [allW, allR, oneOf, evalAll, partsA, optA, Nat.reduceLT, Nat.reduceLeDiff, Nat.reduceEqDiff, Nat.reduceAdd, ↓reduceIte, hn, h0, h1, h2]
  refine wstep_newPtr ?_
  intro s1 ht1 hst1 hnx1
  have hi := hi.keeps hst1
  have hj := hj.keeps hst1
  have l0 : loadA Try.prog s1 58 (.pointer (some ⟨i, 0, some 2⟩)) = some (.func (.func 48) #[] #[]) := hi.load agFn (off := 0) (c := 2) rfl (by simp)
  have l1 : loadA Try.prog s1 32 (.pointer (some ⟨s.next, 0, some 7⟩)) = some (.agg (.string ⟨a.toArray⟩ :: r1).toArray) := Thing.loadAll agE (by simp [q1, szE]) ht1 (by simp [q1])
  have l2 : loadA Try.prog s1 32 (.pointer (some ⟨j, 0, some 7⟩)) = some (.agg (.string ⟨b.toArray⟩ :: r2).toArray) := Thing.loadAll agE (by simp [q2, szE]) hj (by simp [q2])
  simp (config := { maxSteps := 1000000, implicitDefEqProofs := false }) (disch := omega) only [allW, allR, oneOf, evalAll, partsA, optA, Nat.reduceLT, Nat.reduceLeDiff, Nat.reduceEqDiff, Nat.reduceAdd, ↓reduceIte, hn, h0, h1, h2, List.length_cons, q1, q2, l0, l1, l2]
  refine (byKey_any hlk hl1 hlc hp s1 a b r1 r2 q1 q2).mono ?_
  rintro _ s3 ⟨rfl, hs3⟩
  simp (config := { maxSteps := 1000000, implicitDefEqProofs := false }) (disch := omega) only [allW, allR, wfn_ret, wfn_normal, oneOf, evalAll, partsA, optA, Nat.reduceLT, Nat.reduceLeDiff, Nat.reduceEqDiff, Nat.reduceAdd, ↓reduceIte, hn, ge_iff_le, Try.results64]
  exact ⟨rfl, hst1.trans (hs3.weaken hst1.next)⟩
def FoundAt (s : ASt) (p : Nat → Bool) (n : Nat) (v : Value) (s' : ASt) : Prop := (∃ r, v = .int .i64 r ∧ FirstAt p n r) ∧ Stay s.next s s'
set_option maxHeartbeats 4000000 in
theorem indexE {lib : Prims} (hl : lib.at 62 = none) (g : Nat) (bs : List Value) (s : ASt) (x : Value) (n : Nat) (lx : List Value) (hx : Sees s 6 x n lx) (hnn : n ≤ 140737488351232) (p : Nat → Bool)
    (h : ∀ i, i < n → ∀ s' : ASt, Stay s.next s s' → Runs Try.prog lib g (.agg ((lx.drop (i * 6)).take 6).toArray :: bs) s' (Bools s' (p i))) :
    Runs Try.prog lib 62 [x, .func (.func g) #[] bs.toArray] s (FoundAt s p n) := by
  refine Runs.enter 19 Try.func62 rfl hl rfl rfl ?_
  intro f hn hf
  have h0 : f.get 0 = x := hf 0
  have h1 : f.get 1 = .func (.func g) #[] bs.toArray := hf 1
  clear hf
  simp (config := { maxSteps := 1000000, implicitDefEqProofs := false }) (disch := omega) only [allW, allR, oneOf, evalAll, partsA, optA, Nat.reduceLT, Nat.reduceLeDiff, Nat.reduceEqDiff, Nat.reduceAdd, ↓reduceIte, hn, h0, h1, hx.lenA Try.underlying24]
  refine Comes.loopOut (fun z f s' => ∃ i : Nat, z = n - i ∧ i ≤ n ∧ (∀ j, j < i → p j = false) ∧ Stay s.next s s' ∧ f.n = 19 ∧ f.get 0 = x ∧ f.get 1 = .func (.func g) #[] bs.toArray ∧ f.get 7 = .int .i64 (n : Nat) ∧ f.get 8 = .int .i64 (i : Nat))
    (fun z f s' => (z = .ret ∧ Stay s.next s s' ∧ f.n = 19 ∧ ∃ r : Nat, f.get 4 = .int .i64 (r : Nat) ∧ r < n ∧ p r = true ∧ ∀ j, j < r → p j = false) ∨ (z = .exit 0 ∧ (∀ j, j < n → p j = false) ∧ Stay s.next s s' ∧ f.n = 19))
    ⟨0, rfl, by omega, fun j h => by omega, Stay.refl _ _, by simp only [get_put, n_put, ↓reduceIte, Nat.reduceEqDiff, hn], by simp only [get_put, n_put, ↓reduceIte, Nat.reduceEqDiff, h0], by simp only [get_put, n_put, ↓reduceIte, Nat.reduceEqDiff, h1], by simp only [get_put, n_put, ↓reduceIte, Nat.reduceEqDiff], by simp only [get_put, n_put, ↓reduceIte, Nat.reduceEqDiff]; rfl⟩ ?_ ?_
  · clear hn h0 h1 f
    rintro Q hQ z f s2 ⟨i, rfl, hi, hP, hst, hn, h0, h1, h7, h8⟩
    by_cases hlt : i < n
    rotate_left
    · obtain rfl : i = n := by omega
      have d1 : ¬ ((i : Nat) : Int) < ((i : Nat) : Int) := by omega
      simp (config := { maxSteps := 1000000, implicitDefEqProofs := false }) (disch := omega) only [allW, allR, oneOf, evalAll, partsA, optA, Nat.reduceLT, Nat.reduceLeDiff, Nat.reduceEqDiff, Nat.reduceAdd, ↓reduceIte, hn, h0, h1, h7, h8, eq_false d1]
      exact hQ _ _ _ (.inr ⟨rfl, hP, hst, by simp only [get_put, n_put, ↓reduceIte, Nat.reduceEqDiff, hn]⟩)
    have d1 : ((i : Nat) : Int) < ((n : Nat) : Int) := by omega
    have hx2 := hx.keeps hst
    have hix := hx2.indexAddr (P := Try.prog) (k := .i64) (x := (i : Int)) Try.underlying24 szE (by omega) (by omega)
    rw [Int.toNat_natCast] at hix
    have hld := hx2.loadAgg (P := Try.prog) agE szE hlt
    have hrun := h i hlt s2 hst
    generalize (lx.drop (i * 6)).take 6 = xs at hld hrun
    simp (config := { maxSteps := 1000000, implicitDefEqProofs := false }) (disch := omega) only [allW, allR, oneOf, evalAll, partsA, optA, Nat.reduceLT, Nat.reduceLeDiff, Nat.reduceEqDiff, Nat.reduceAdd, ↓reduceIte, hn, h0, h1, h7, h8, eq_true d1, hx2.self, hix, hld]
    refine hrun.mono ?_
    rintro _ s3 ⟨rfl, hs3⟩
    have hss := hst.trans (hs3.weaken hst.next)
    cases hp : p i with
    | true =>
      simp (config := { maxSteps := 1000000, implicitDefEqProofs := false }) (disch := omega) only [allW, allR, oneOf, evalAll, partsA, optA, Nat.reduceLT, Nat.reduceLeDiff, Nat.reduceEqDiff, Nat.reduceAdd, ↓reduceIte, hn, h0, h1, h7, h8]
      exact hQ _ _ _ (.inl ⟨rfl, hss, by simp only [get_put, n_put, ↓reduceIte, Nat.reduceEqDiff, hn], i, by simp only [get_put, n_put, ↓reduceIte, Nat.reduceEqDiff], hlt, hp, hP⟩)
    | false =>
      simp (config := { maxSteps := 1000000, implicitDefEqProofs := false }) (disch := omega) only [allW, allR, oneOf, evalAll, partsA, optA, Nat.reduceLT, Nat.reduceLeDiff, Nat.reduceEqDiff, Nat.reduceAdd, ↓reduceIte, hn, h0, h1, h7, h8, wrapI]
      exact wround_next (n - (i + 1)) (by omega) ⟨i + 1, rfl, by omega, upto_next hP hp, hss, by simp only [get_put, n_put, ↓reduceIte, Nat.reduceEqDiff, hn], by simp only [get_put, n_put, ↓reduceIte, Nat.reduceEqDiff, h0], by simp only [get_put, n_put, ↓reduceIte, Nat.reduceEqDiff, h1], by simp only [get_put, n_put, ↓reduceIte, Nat.reduceEqDiff, h7], by simp only [get_put, n_put, ↓reduceIte, Nat.reduceEqDiff]; rfl⟩
  rintro z f' s6 (⟨rfl, hs, hn', r, h4, hr1, hr2, hr3⟩ | ⟨rfl, hP, hs, hn'⟩)
  · simp (config := { maxSteps := 1000000, implicitDefEqProofs := false }) (disch := omega) only [allW, allR, wfn_ret, wfn_normal, oneOf, evalAll, partsA, optA, Nat.reduceLT, Nat.reduceLeDiff, Nat.reduceEqDiff, Nat.reduceAdd, ↓reduceIte, hn', h4, Try.results62]
    exact ⟨⟨_, rfl, .inr ⟨r, hr1, rfl, hr2, hr3⟩⟩, hs⟩
  simp (config := { maxSteps := 1000000, implicitDefEqProofs := false }) (disch := omega) only [allW, allR, wfn_ret, wfn_normal, oneOf, evalAll, partsA, optA, Nat.reduceLT, Nat.reduceLeDiff, Nat.reduceEqDiff, Nat.reduceAdd, ↓reduceIte, hn', Try.results62]
  exact ⟨⟨_, rfl, .inl ⟨rfl, hP⟩⟩, hs⟩
end Go.Proofs.Ytdhdhbkikhedlaa
namespace Go.Cl
theorem rows_ok {z : Nat} (hz : 0 < z) : ∀ (n : Nat) (l : List Value), l.length = n * z → (∀ i, i < n → ((l.drop (i * z)).take z).all okCell = true) → l.all okCell = true
  | 0, l, h, _ => by
    have : l = [] := List.eq_nil_of_length_eq_zero (by omega)
    rw [this]; rfl
  | n + 1, l, h, k => by
    have h1 : (l.take z).all okCell = true := by
      have := k 0 (by omega)
      rwa [Nat.zero_mul, List.drop_zero] at this
    have h2 : (l.drop z).all okCell = true := by
      refine rows_ok hz n _ (by rw [List.length_drop, h, Nat.succ_mul]; omega) (fun i hi => ?_)
      have := k (i + 1) (by omega)
      rw [List.drop_drop]
      rwa [Nat.succ_mul, Nat.add_comm] at this
    rw [← List.take_append_drop z l, List.all_append, h1, h2]; rfl
end Go.Cl
namespace Go.Proofs.Ytdhdhbkikhedlaa
open Go.Cl
def Cloned (s : ASt) (n : Nat) (lx : List Value) (v : Value) (s' : ASt) : Prop := Own s' 6 v n lx ∧ Fresh s.next v ∧ Stay s.next s s'
theorem cloneE {lib : Prims} (hl : lib.at 66 = none) (s : ASt) (x : Value) (n : Nat) (lx : List Value) (hx : Sees s 6 x n lx) (hn4 : n ≤ 1000000) (hok : lx.all okCell = true) :
    Runs Try.prog lib 66 [x] s (Cloned s n lx) := by
  refine Runs.enter 8 Try.func66 rfl hl rfl rfl ?_
  intro f hn hf
  have h0 : f.get 0 = x := hf 0
  clear hf
  simp (config := { maxSteps := 1000000, implicitDefEqProofs := false }) (disch := omega) only [allW, allR, oneOf, evalAll, partsA, optA, Nat.reduceLT, Nat.reduceLeDiff, Nat.reduceEqDiff, Nat.reduceAdd, ↓reduceIte, hn, h0, hx.eql_nil Try.underlying24]
  refine wif_cases (fun h => ?_) (fun h => ?_)
  · obtain ⟨h1, h2, _⟩ := hx.isNil h
    subst h1
    have : lx = [] := List.eq_nil_of_length_eq_zero (by have := hx.length; omega)
    subst this
    simp (config := { maxSteps := 1000000, implicitDefEqProofs := false }) (disch := omega) only [allW, allR, wfn_ret, wfn_normal, oneOf, evalAll, partsA, optA, Nat.reduceLT, Nat.reduceLeDiff, Nat.reduceEqDiff, Nat.reduceAdd, ↓reduceIte, hn, h0, Try.results66]
    exact ⟨.nil, Fresh.nil _, Stay.refl _ _⟩
  · simp (config := { maxSteps := 1000000, implicitDefEqProofs := false }) (disch := omega) only [allW, allR, oneOf, evalAll, partsA, optA, Nat.reduceLT, Nat.reduceLeDiff, Nat.reduceEqDiff, Nat.reduceAdd, ↓reduceIte, hn, h0, build0 Try.underlying24 szE zE plE rfl]
    refine wstep_newSlice (by rfl) ?_
    intro b s1 hb hF hst
    simp (config := { maxSteps := 1000000, implicitDefEqProofs := false }) (disch := omega) only [allW, allR, oneOf, evalAll, partsA, optA, Nat.reduceLT, Nat.reduceLeDiff, Nat.reduceEqDiff, Nat.reduceAdd, ↓reduceIte, hn, h0]
    refine wstep_append Try.underlying24 Try.underlying24 (.inl ⟨_, rfl⟩) szE byE zE rfl hb (hx.keeps hst).src hx.length (by decide) hok (by omega) (by omega) hF hst.next ?_
    intro b' s2 hb' hF' hst' _ _
    simp (config := { maxSteps := 1000000, implicitDefEqProofs := false }) (disch := omega) only [allW, allR, wfn_ret, wfn_normal, oneOf, evalAll, partsA, optA, Nat.reduceLT, Nat.reduceLeDiff, Nat.reduceEqDiff, Nat.reduceAdd, ↓reduceIte, hn, Try.results66]
    exact ⟨by simpa using hb', hF', hst.trans hst'⟩
end Go.Proofs.Ytdhdhbkikhedlaa
namespace Go.Cl
theorem Turns.trans {v : Value} {s s' s'' : ASt} (h : Turns v s s') (k : Turns v s' s'') : Turns v s s'' :=
  ⟨Nat.le_trans h.next k.next, fun i hi hne => (k.get i (Nat.lt_of_lt_of_le hi h.next) hne).trans (h.get i hi hne)⟩
end Go.Cl
namespace Go.Proofs.Ytdhdhbkikhedlaa
open Go.Cl
def Kept (s : ASt) (x : Value) (v : Value) (s' : ASt) : Prop := v = x ∧ Stay s.next s s'
theorem delNoneE {lib : Prims} (hl : lib.at 65 = none) (hli : lib.at 62 = none) (g : Nat) (bs : List Value) (s : ASt) (x : Value) (n : Nat) (lx : List Value) (hx : Sees s 6 x n lx) (hnn : n ≤ 1000000) (p : Nat → Bool)
    (h : ∀ i, i < n → ∀ s' : ASt, Stay s.next s s' → Runs Try.prog lib g (.agg ((lx.drop (i * 6)).take 6).toArray :: bs) s' (Bools s' (p i))) (hp : ∀ i, i < n → p i = false) :
    Runs Try.prog lib 65 [x, .func (.func g) #[] bs.toArray] s (Kept s x) := by
  refine Runs.enter 42 Try.func65 rfl hl rfl rfl ?_
  intro f hn hf
  have h0 : f.get 0 = x := hf 0
  have h1 : f.get 1 = .func (.func g) #[] bs.toArray := hf 1
  clear hf
  simp (config := { maxSteps := 1000000, implicitDefEqProofs := false }) (disch := omega) only [allW, allR, oneOf, evalAll, partsA, optA, Nat.reduceLT, Nat.reduceLeDiff, Nat.reduceEqDiff, Nat.reduceAdd, ↓reduceIte, hn, h0, h1]
  refine (indexE hli g bs s x n lx hx (by omega) p h).mono ?_
  rintro _ s2 ⟨⟨r, rfl, hr⟩, hs2⟩
  rcases hr with ⟨rfl, -⟩ | ⟨k, hk, -, hk1, -⟩
  · simp (config := { maxSteps := 1000000, implicitDefEqProofs := false }) (disch := omega) only [allW, allR, wfn_ret, wfn_normal, oneOf, evalAll, partsA, optA, Nat.reduceLT, Nat.reduceLeDiff, Nat.reduceEqDiff, Nat.reduceAdd, ↓reduceIte, hn, h0, h1, Try.results65]
    exact ⟨rfl, hs2⟩
  · rw [hp k hk] at hk1; cases hk1
def Deleted (s : ASt) (x : Value) (n : Nat) (lx : List Value) (p : Nat → Bool) (v : Value) (s' : ASt) : Prop := Sees s' 6 v (keptN p n) (keptC lx 6 p n) ∧ Turns x s s' ∧ (∀ j, idOf v = some j → idOf x = some j)
set_option maxHeartbeats 4000000 in
theorem delE {lib : Prims} (hl : lib.at 65 = none) (hli : lib.at 62 = none) (g : Nat) (bs : List Value) (s : ASt) (x : Value) (n : Nat) (lx : List Value) (hx : Own s 6 x n lx) (hnn : n ≤ 1000000) (hok : ∀ i, i < n → ((lx.drop (i * 6)).take 6).all okCell = true) (p : Nat → Bool)
    (h : ∀ i, i < n → ∀ s' : ASt, Turns x s s' → Runs Try.prog lib g (.agg ((lx.drop (i * 6)).take 6).toArray :: bs) s' (Bools s' (p i))) :
    Runs Try.prog lib 65 [x, .func (.func g) #[] bs.toArray] s (Deleted s x n lx p) := by
  have hlx := hx.length
  refine Runs.enter 42 Try.func65 rfl hl rfl rfl ?_
  intro f hn hf
  have h0 : f.get 0 = x := hf 0
  have h1 : f.get 1 = .func (.func g) #[] bs.toArray := hf 1
  clear hf
  simp (config := { maxSteps := 1000000, implicitDefEqProofs := false }) (disch := omega) only [allW, allR, oneOf, evalAll, partsA, optA, Nat.reduceLT, Nat.reduceLeDiff, Nat.reduceEqDiff, Nat.reduceAdd, ↓reduceIte, hn, h0, h1]
  refine (indexE hli g bs s x n lx hx.sees (by omega) p (fun i hi s' hs' => h i hi s' ⟨hs'.next, fun q hq _ => hs'.get q hq⟩)).mono ?_
  rintro _ s2 ⟨⟨r, rfl, hr⟩, hs2⟩
  have ht2 : Turns x s s2 := ⟨hs2.next, fun q hq _ => hs2.get q hq⟩
  have hx2 := hx.keeps hs2
  rcases hr with ⟨rfl, hall⟩ | ⟨k, hk, rfl, hk1, hk0⟩
  · simp (config := { maxSteps := 1000000, implicitDefEqProofs := false }) (disch := omega) only [allW, allR, wfn_ret, wfn_normal, oneOf, evalAll, partsA, optA, Nat.reduceLT, Nat.reduceLeDiff, Nat.reduceEqDiff, Nat.reduceAdd, ↓reduceIte, hn, h0, h1, Try.results65]
    obtain ⟨e1, e2⟩ := kept_all (l := lx) (z := 6) n hall
    refine ⟨?_, ht2, fun j hj => hj⟩
    rw [e1, e2, List.take_of_length_le (by omega)]
    exact hx2.sees
  have hkm : ¬ ((k : Nat) : Int) = -1 := by omega
  simp (config := { maxSteps := 1000000, implicitDefEqProofs := false }) (disch := omega) only [allW, allR, oneOf, evalAll, partsA, optA, Nat.reduceLT, Nat.reduceLeDiff, Nat.reduceEqDiff, Nat.reduceAdd, ↓reduceIte, hn, h0, h1, eq_false hkm, wrapI]
  obtain ⟨e1, e2⟩ := kept_all (l := lx) (z := 6) k hk0
  obtain ⟨k1, k2⟩ := kept_skip (l := lx) (L := lx) (z := 6) (j := k) (by rw [e1, e2]) rfl hk1
  have hk1' : keptN p (k + 1) = k := by simp [keptN, hk1, e1]
  refine Comes.loopOut (fun z f s' => ∃ (j : Nat) (L : List Value), z = n - j ∧ j ≤ n ∧ Own s' 6 x n L ∧ L.take (keptN p j * 6) = keptC lx 6 p j ∧ L.drop (j * 6) = lx.drop (j * 6) ∧ Turns x s s' ∧ f.n = 42 ∧ f.get 0 = x ∧ f.get 1 = .func (.func g) #[] bs.toArray ∧ f.get 5 = .int .i64 (keptN p j : Nat) ∧ f.get 6 = .int .i64 (j : Nat))
    (fun z f s' => z = .exit 0 ∧ ∃ L : List Value, Own s' 6 x n L ∧ L.take (keptN p n * 6) = keptC lx 6 p n ∧ Turns x s s' ∧ f.n = 42 ∧ f.get 0 = x ∧ f.get 5 = .int .i64 (keptN p n : Nat))
    ⟨k + 1, lx, rfl, by omega, hx2, k1, rfl, ht2, by simp only [get_put, n_put, ↓reduceIte, Nat.reduceEqDiff, hn], by simp only [get_put, n_put, ↓reduceIte, Nat.reduceEqDiff, h0], by simp only [get_put, n_put, ↓reduceIte, Nat.reduceEqDiff, h1], by simp only [get_put, n_put, ↓reduceIte, Nat.reduceEqDiff, hk1'], by simp only [get_put, n_put, ↓reduceIte, Nat.reduceEqDiff]; rfl⟩ ?_ ?_
  · clear hn h0 h1 f hx2 ht2 hs2
    rintro Q hQ z f s3 ⟨j, L, rfl, hj, ho, ha, hb, ht, hn, h0, h1, h5, h6⟩
    have hos := ho.sees
    by_cases hlt : j < n
    rotate_left
    · obtain rfl : j = n := by omega
      have d1 : ¬ ((j : Nat) : Int) < ((j : Nat) : Int) := by omega
      simp (config := { maxSteps := 1000000, implicitDefEqProofs := false }) (disch := omega) only [allW, allR, oneOf, evalAll, partsA, optA, Nat.reduceLT, Nat.reduceLeDiff, Nat.reduceEqDiff, Nat.reduceAdd, ↓reduceIte, hn, h0, h1, h5, h6, hos.lenA Try.underlying24, eq_false d1]
      exact hQ _ _ _ ⟨rfl, L, ho, ha, ht, by simp only [get_put, n_put, ↓reduceIte, Nat.reduceEqDiff, hn], by simp only [get_put, n_put, ↓reduceIte, Nat.reduceEqDiff, h0], by simp only [get_put, n_put, ↓reduceIte, Nat.reduceEqDiff, h5]⟩
    have d1 : ((j : Nat) : Int) < ((n : Nat) : Int) := by omega
    have hix := hos.indexAddr (P := Try.prog) (k := .i64) (x := (j : Int)) Try.underlying24 szE (by omega) (by omega)
    rw [Int.toNat_natCast] at hix
    have hld := hos.loadAgg (P := Try.prog) agE szE hlt
    have hrow : (L.drop (j * 6)).take 6 = (lx.drop (j * 6)).take 6 := by rw [hb]
    rw [hrow] at hld
    have hrl : ((lx.drop (j * 6)).take 6).length = 6 := by
      have : (j + 1) * 6 ≤ n * 6 := Nat.mul_le_mul_right 6 hlt
      rw [List.length_take, List.length_drop]; omega
    have hokj := hok j hlt
    have hrun := h j hlt
    have hst6 := fun hp => kept_step (l := lx) (L := L) (z := 6) (n := n) (j := j) (p := p) hos.length hlx hlt ha hb hp
    generalize (lx.drop (j * 6)).take 6 = xs at hld hrl hokj hrun hst6
    have hd7 : noneE.length + 1 = 7 := rfl
    simp (config := { maxSteps := 1000000, implicitDefEqProofs := false }) (disch := omega) only [allW, allR, oneOf, evalAll, partsA, optA, Nat.reduceLT, Nat.reduceLeDiff, Nat.reduceEqDiff, Nat.reduceAdd, ↓reduceIte, hn, h0, h1, h5, h6, hos.lenA Try.underlying24, eq_true d1, hos.self, hix, hld, zE, plE]
    refine wstep_newPtr ?_
    intro s4 ht4 hst4 hnx4
    simp (config := { maxSteps := 1000000, implicitDefEqProofs := false }) (disch := omega) only [allW, allR, oneOf, evalAll, partsA, optA, Nat.reduceLT, Nat.reduceLeDiff, Nat.reduceEqDiff, Nat.reduceAdd, ↓reduceIte, hn, h0, h1, h5, h6, hd7]
    refine wstep_storeAll szE (by decide) ht4 rfl rfl hrl hokj ?_
    intro s5 ht5 hnx5 hot5
    have ht5 : Thing s5 s3.next xs := ht5
    have hs35 : Stay s3.next s3 s5 := hst4.trans ⟨by omega, fun q hq => hot5 q (by omega)⟩
    have ho5 := ho.keeps hs35
    have la : loadA Try.prog s5 32 (.pointer (some ⟨s3.next, 0, some 7⟩)) = some (.agg xs.toArray) := Thing.loadAll agE (by rw [hrl]; exact szE) ht5 (by rw [hrl])
    have htt5 : Turns x s s5 := ht.trans ⟨hs35.next, fun q hq _ => hs35.get q hq⟩
    simp (config := { maxSteps := 1000000, implicitDefEqProofs := false }) (disch := omega) only [allW, allR, oneOf, evalAll, partsA, optA, Nat.reduceLT, Nat.reduceLeDiff, Nat.reduceEqDiff, Nat.reduceAdd, ↓reduceIte, hn, h0, h1, h5, h6, la]
    refine (hrun s5 htt5).mono ?_
    rintro _ s6 ⟨rfl, hs6⟩
    have htt6 : Turns x s s6 := htt5.trans ⟨hs6.next, fun q hq _ => hs6.get q hq⟩
    have ho6 := ho5.keeps hs6
    have lb : loadA Try.prog s6 32 (.pointer (some ⟨s3.next, 0, some 7⟩)) = some (.agg xs.toArray) := Thing.loadAll agE (by rw [hrl]; exact szE) (ht5.keeps hs6) (by rw [hrl])
    cases hp : p j with
    | true =>
      obtain ⟨u1, u2⟩ := kept_skip ha hb hp
      have hkk : keptN p (j + 1) = keptN p j := by simp [keptN, hp]
      simp (config := { maxSteps := 1000000, implicitDefEqProofs := false }) (disch := omega) only [allW, allR, oneOf, evalAll, partsA, optA, Nat.reduceLT, Nat.reduceLeDiff, Nat.reduceEqDiff, Nat.reduceAdd, ↓reduceIte, hn, h0, h1, h5, h6, wrapI]
      exact wround_next (n - (j + 1)) (by omega) ⟨j + 1, L, rfl, by omega, ho6, u1, u2, htt6, by simp only [get_put, n_put, ↓reduceIte, Nat.reduceEqDiff, hn], by simp only [get_put, n_put, ↓reduceIte, Nat.reduceEqDiff, h0], by simp only [get_put, n_put, ↓reduceIte, Nat.reduceEqDiff, h1], by simp only [get_put, n_put, ↓reduceIte, Nat.reduceEqDiff, h5, hkk], by simp only [get_put, n_put, ↓reduceIte, Nat.reduceEqDiff]; rfl⟩
    | false =>
      obtain ⟨u1, u2⟩ := hst6 hp
      have hkl := keptN_le p j
      have hkk : keptN p (j + 1) = keptN p j + 1 := by simp [keptN, hp]
      have hiy := ho6.sees.indexAddr (P := Try.prog) (k := .i64) (x := (keptN p j : Int)) Try.underlying24 szE (by omega) (by omega)
      rw [Int.toNat_natCast] at hiy
      simp (config := { maxSteps := 1000000, implicitDefEqProofs := false }) (disch := omega) only [allW, allR, oneOf, evalAll, partsA, optA, Nat.reduceLT, Nat.reduceLeDiff, Nat.reduceEqDiff, Nat.reduceAdd, ↓reduceIte, hn, h0, h1, h5, h6, lb, hiy, ho6.self]
      refine wstep_storeAgg szE (by decide) ho6 (by omega) hrl hokj ?_
      intro s7 ho7 hu7
      simp (config := { maxSteps := 1000000, implicitDefEqProofs := false }) (disch := omega) only [allW, allR, oneOf, evalAll, partsA, optA, Nat.reduceLT, Nat.reduceLeDiff, Nat.reduceEqDiff, Nat.reduceAdd, ↓reduceIte, hn, h0, h1, h5, h6, wrapI]
      exact wround_next (n - (j + 1)) (by omega) ⟨j + 1, _, rfl, by omega, ho7, u1, u2, htt6.trans hu7, by simp only [get_put, n_put, ↓reduceIte, Nat.reduceEqDiff, hn], by simp only [get_put, n_put, ↓reduceIte, Nat.reduceEqDiff, h0], by simp only [get_put, n_put, ↓reduceIte, Nat.reduceEqDiff, h1], by simp only [get_put, n_put, ↓reduceIte, Nat.reduceEqDiff, hkk]; rfl, by simp only [get_put, n_put, ↓reduceIte, Nat.reduceEqDiff]; rfl⟩
  rintro z f' s6 ⟨rfl, L, ho, ha, ht, hn', h0', h5'⟩
  have hkl := keptN_le p n
  have hsl := ho.sees.sliceLow (P := Try.prog) Try.underlying24 szE (k := .i64) (x := (keptN p n : Int)) (by omega) (by omega)
  rw [Int.toNat_natCast] at hsl
  simp (config := { maxSteps := 1000000, implicitDefEqProofs := false }) (disch := omega) only [allW, allR, oneOf, evalAll, partsA, optA, Nat.reduceLT, Nat.reduceLeDiff, Nat.reduceEqDiff, Nat.reduceAdd, ↓reduceIte, hn', h0', h5', hsl]
  refine wstep_clearEnd (zs := noneE) Try.underlying24 szE zE plE rfl rfl (by decide) rfl ho hkl ?_
  intro s7 ho7 hu7
  have hsh := ho7.sees.sliceHigh (P := Try.prog) Try.underlying24 szE (k := .i64) (y := (keptN p n : Int)) (by omega) (by omega)
  rw [Int.toNat_natCast] at hsh
  simp (config := { maxSteps := 1000000, implicitDefEqProofs := false }) (disch := omega) only [allW, allR, wfn_ret, wfn_normal, oneOf, evalAll, partsA, optA, Nat.reduceLT, Nat.reduceLeDiff, Nat.reduceEqDiff, Nat.reduceAdd, ↓reduceIte, hn', h0', h5', hsh, Try.results65]
  have hc := ho7.sees.cut (lo := 0) (hi := keptN p n) (by omega) hkl
  refine ⟨?_, ht.trans hu7, fun j hj => ?_⟩
  · have e : ((L.take (keptN p n * 6) ++ repeatL noneE (n - keptN p n)).drop (0 * 6)).take ((keptN p n - 0) * 6) = keptC lx 6 p n := by
      rw [Nat.zero_mul, List.drop_zero, Nat.sub_zero, ha]
      have := keptC_len p hlx n (Nat.le_refl _)
      rw [List.take_append_of_le_length (by omega), List.take_of_length_le (by omega)]
    have e' := hc
    rw [e, Nat.sub_zero] at e'
    exact e'
  · cases ho7 with
    | nil => exact hj
    | of => exact hj
end Go.Proofs.Ytdhdhbkikhedlaa
