import Derived.Test.YtokfoagohblkoaaDocI
import Derived.Test.YtokfoagohblkoaaBuild
set_option linter.unusedSimpArgs false
set_option linter.unusedVariables false
set_option maxRecDepth 100000
namespace Go.Proofs.Ytokfoagohblkoaa
open Go.Cl Go.Lib
theorem rref_any {lib : Prims} (hl : lib.at 20 = none) (s : ASt) (n : Int) : Runs Try.prog lib 20 [.int .i64 n] s (NewO s (.mk 9 n [] [] [])) := by
  refine Runs.enter 5 Try.func20 rfl hl rfl rfl ?_
  intro f hn hf
  have h0 : f.get 0 = .int .i64 n := hf 0
  clear hf
  simp (config := { maxSteps := 1000000, implicitDefEqProofs := false }) (disch := omega) only [allW, allR, oneOf, evalAll, partsA, optA, Nat.reduceLT, Nat.reduceLeDiff, Nat.reduceEqDiff, Nat.reduceAdd, ↓reduceIte, hn, zO, plO]
  refine wstep_newPtr ?_
  intro s1 ht1 hst1 hnx1
  have hd6 : noneC.length + 1 = 6 := rfl
  simp (config := { maxSteps := 1000000, implicitDefEqProofs := false }) (disch := omega) only [allW, allR, oneOf, evalAll, partsA, optA, Nat.reduceLT, Nat.reduceLeDiff, Nat.reduceEqDiff, Nat.reduceAdd, ↓reduceIte, hn, h0, hd6, bO]
  refine wstep_storeAll szO (by decide) ht1 rfl rfl rfl rfl ?_
  intro s2 ht2 hnx2 hot2
  simp (config := { maxSteps := 1000000, implicitDefEqProofs := false }) (disch := omega) only [allW, allR, wfn_ret, wfn_normal, oneOf, evalAll, partsA, optA, Nat.reduceLT, Nat.reduceLeDiff, Nat.reduceEqDiff, Nat.reduceAdd, ↓reduceIte, hn, Thing.loadO ht2 rfl, resultsA_cell, Try.results20]
  exact NewO.put (F := fun _ => False) (OIs.bare _ s1 9 n) (fun j hj => hj.elim) hnx2 hot2 hst1 (Nat.le_refl _)
theorem rpair_any {lib : Prims} (hl : lib.at 22 = none) (hlc : lib.at 29 = none) (hl1 : lib.at 49 = none) (F : Nat → Prop) (s : ASt) (k : List UInt8) (cs : List Value) (o : O) (ho : OIs F s cs o) (hsm : Small o) :
    Runs Try.prog lib 22 [.string ⟨k.toArray⟩, .agg cs.toArray] s (NewE s k o) := by
  have hcl := ho.len
  refine Runs.enter 9 Try.func22 rfl hl rfl rfl ?_
  intro f hn hf
  have h0 : f.get 0 = .string ⟨k.toArray⟩ := hf 0
  have h1 : f.get 1 = .agg cs.toArray := hf 1
  clear hf
  simp (config := { maxSteps := 1000000, implicitDefEqProofs := false }) (disch := omega) only [allW, allR, oneOf, evalAll, partsA, optA, Nat.reduceLT, Nat.reduceLeDiff, Nat.reduceEqDiff, Nat.reduceAdd, ↓reduceIte, hn, h0, h1]
  refine wstep_newPtr ?_
  intro s1 ht1 hst1 hnx1
  simp (config := { maxSteps := 1000000, implicitDefEqProofs := false }) (disch := omega) only [allW, allR, oneOf, evalAll, partsA, optA, Nat.reduceLT, Nat.reduceLeDiff, Nat.reduceEqDiff, Nat.reduceAdd, ↓reduceIte, hn, h0, h1, hcl, zE, plE]
  refine wstep_newPtr ?_
  intro s2 ht2 hst2 hnx2
  have hs2 : Stay s.next s s2 := hst1.trans (hst2.weaken (by omega))
  have la : loadA Try.prog s2 31 (.pointer (some ⟨s.next, 0, some 6⟩)) = some (.agg cs.toArray) := Thing.loadAll agO (by rw [hcl]; exact szO) (ht1.keeps hst2) (by rw [hcl])
  have hd7 : noneE.length + 1 = 7 := rfl
  simp (config := { maxSteps := 1000000, implicitDefEqProofs := false }) (disch := omega) only [allW, allR, oneOf, evalAll, partsA, optA, Nat.reduceLT, Nat.reduceLeDiff, Nat.reduceEqDiff, Nat.reduceAdd, ↓reduceIte, hn, h0, h1, la, hd7]
  refine (rcopyO hlc hl1 _ o (Nat.le_refl _) F s2 cs (ho.keeps hs2) hsm).mono ?_
  rintro _ s3 ⟨cs', rfl, ho3, hst3⟩
  have hcl' := ho3.len
  obtain ⟨es, hes⟩ : ∃ es, es = Value.string ⟨k.toArray⟩ :: cs' := ⟨_, rfl⟩
  have hel : es.length = 6 := by rw [hes]; simp [hcl']
  have hesok : es.all okCell = true := by rw [hes, List.all_cons, ho3.ok]; rfl
  have hbE := bE k hcl'
  rw [← hes] at hbE
  simp (config := { maxSteps := 1000000, implicitDefEqProofs := false }) (disch := omega) only [allW, allR, oneOf, evalAll, partsA, optA, Nat.reduceLT, Nat.reduceLeDiff, Nat.reduceEqDiff, Nat.reduceAdd, ↓reduceIte, hn, h0, h1, hbE]
  refine wstep_storeAll szE (by decide) (ht2.keeps hst3) rfl rfl hel hesok ?_
  intro s4 ht4 hnx4 hot4
  have ht4 : Thing s4 s1.next es := ht4
  have l4 : loadA Try.prog s4 70 (.pointer (some ⟨s1.next, 0, some 7⟩)) = some (.agg es.toArray) := Thing.loadAll agE (by rw [hel]; exact szE) ht4 (by rw [hel])
  simp (config := { maxSteps := 1000000, implicitDefEqProofs := false }) (disch := omega) only [allW, allR, wfn_ret, wfn_normal, oneOf, evalAll, partsA, optA, Nat.reduceLT, Nat.reduceLeDiff, Nat.reduceEqDiff, Nat.reduceAdd, ↓reduceIte, hn, l4, resultsA_cell, Try.results22]
  have hn1 := hst1.next
  have hn2 := hst2.next
  refine ⟨cs', by rw [hes], (ho3.turns (u := .pointer (some ⟨s1.next, 0, none⟩)) (Turns.ofPut hnx4 hot4) (fun j hj e => ?_)).mono (fun j hj => by omega), (hs2.trans (hst3.weaken hs2.next)).trans ⟨by omega, fun j hj => hot4 j (by omega)⟩⟩
  have e : some s1.next = some j := e
  injection e with e; omega
theorem bItem (n : Int) {cs : List Value} (hl : cs.length = 5) : buildA Try.prog 66 [(0, .int .i64 n), (1, .agg cs.toArray)] = some (.agg (.int .i64 n :: cs).toArray) := by
  obtain ⟨a, b, c, d, e, rfl⟩ := five hl
  kernel_rfl
def noneD : List Value := docC ⟨0, [], 0, O.none, []⟩ (.slice none 0 0) noneC (.slice none 0 0)
theorem plD : plainV (.agg noneD.toArray) = true := by kernel_rfl
theorem bDoc {tc : List Value} (hl : tc.length = 5) (a : Option Addr) (n c : Nat) : buildA Try.prog 34 [(3, .agg tc.toArray), (4, .slice a n c)] = some (.agg (.int .i64 0 :: .slice none 0 0 :: .int .i64 0 :: (tc ++ [.slice a n c])).toArray) := by
  obtain ⟨a, b, c, d, e, rfl⟩ := five hl
  kernel_rfl
end Go.Proofs.Ytokfoagohblkoaa
