/-
  The clean machine, part 27: texts.
-/
import Derived.Test.YtnclklboogdoiaaRul
import Derived.Test.YtnclklboogdoiaaNfB
import Derived.Test.YtnclklboogdoiaaNfZ
set_option linter.unusedSimpArgs false
set_option linter.unusedVariables false
set_option maxRecDepth 100000
namespace Go.Cl
section
variable {P : Program} {t : TypeId}
theorem str_eql (a b : List UInt8) : binA P .eql t (.string ⟨a.toArray⟩) (.string ⟨b.toArray⟩) = some (.bool (decide (a = b))) := by
  simp only [binA, strOp]
  congr 2
  by_cases h : a = b
  · subst h; simp
  · simp [h]
theorem toBytes_of (a : List UInt8) : toBytes (ofBytes a) = some a := by
  induction a with
  | nil => rfl
  | cons c a ih =>
    rw [ofBytes_cons]
    simp only [toBytes, ih, toByte]
    have : UInt8.ofNat ((c.toNat : Int)).toNat = c := by simp
    rw [this]
theorem Sees.str {s : ASt} {dst e : TypeId} (hu : P.underlying t = some (.slice e)) (hd : P.underlying dst = some .string) (he : P.underlying e = some (.int .u8)) {v : Value} {a : List UInt8} (h : Sees s 1 v a.length (ofBytes a)) : convA P s t dst v = some (.string ⟨a.toArray⟩, s) := by
  have h8 : isU8 P e = true := by unfold isU8; rw [he]
  generalize hn : a.length = n at h
  generalize ha : ofBytes a = l at h
  have hlen : l.length = n := by rw [← ha, ofBytes_length, hn]
  cases h with
  | nil =>
    have : a = [] := List.eq_nil_of_length_eq_zero hn
    subst this
    unfold convA; rw [hu, hd]; simp [h8]
  | bare =>
    have : a = [] := List.eq_nil_of_length_eq_zero hn
    subst this
    unfold convA; rw [hu, hd]; simp [h8]
  | of i off n c b l hi hb hz hl hc hl2 hoff ht =>
    unfold convA; rw [hu, hd]
    simp only [h8, if_true]
    cases n with
    | zero =>
      have : a = [] := List.eq_nil_of_length_eq_zero hn
      subst this; rfl
    | succ n =>
      simp only
      rw [cellsAt_eq hb hl hc (by omega)]
      have : (b.cells.drop off).take (n + 1) = ofBytes a := by rw [Nat.mul_one] at ht; rw [ht, ha]
      rw [this]
      simp only [toBytes_of]
end
end Go.Cl
set_option linter.unusedSimpArgs false
set_option linter.unusedVariables false
set_option maxRecDepth 100000
namespace Go.Proofs.Ytnclklboogdoiaa
open Go.Cl Go.Cl.Sto Go.Cl.Rw Go.Cl.Fx Go.Cl.Nf Go.Cl.Jn
theorem build6 {P : Program} {s : ASt} {t e : TypeId} {k : IntKind} {a b c d g w : Int} (hu : P.underlying t = some (.slice e)) (hsz : sizeB P e = some 1) (hz : zeroB P e = some (.int k 0)) : buildSliceA P s t 6 [(0, .int k a), (1, .int k b), (2, .int k c), (3, .int k d), (4, .int k g), (5, .int k w)] = newSlice s [.int k a, .int k b, .int k c, .int k d, .int k g, .int k w] 6 1 := by
  unfold buildSliceA; rw [hu]; simp only [hsz, hz]; rfl
set_option maxHeartbeats 8000000 in
theorem awake_any (s : ASt) : Runs Try.prog [] 10 [] s fun v s' => v = .bool true ∧ Stay s.next s s' := by
  refine Runs.enter 21 Try.func10 rfl rfl rfl rfl ?_
  intro f hn _
  simp (config := { maxSteps := 1000000, implicitDefEqProofs := false }) (disch := omega) only [allW, allR, oneOf, evalAll, partsA, optA, Nat.reduceLT, Nat.reduceLeDiff, Nat.reduceEqDiff, Nat.reduceAdd, ↓reduceIte, hn, build6 Try.underlying22 szU8 zU8]
  refine wstep_newSlice rfl ?_
  intro v s1 hv hvF k1
  have e : ([.int .u8 1, .int .u8 1, .int .u8 0, .int .u8 254, .int .u8 255, .int .u8 97] : List Value) = ofBytes (sto [97] ++ []) := by
    rw [List.append_nil, sto_last (by decide)]; rfl
  have hl : (sto [97] ++ ([] : List UInt8)).length = 6 := by rw [List.append_nil, sto_last (by decide)]; rfl
  rw [e] at hv
  simp (config := { maxSteps := 1000000, implicitDefEqProofs := false }) (disch := omega) only [allW, allR, oneOf, evalAll, partsA, optA, Nat.reduceLT, Nat.reduceLeDiff, Nat.reduceEqDiff, Nat.reduceAdd, ↓reduceIte, hn]
  have r := blocksP_any noLx s1 v (sto [97] ++ []) 60 (by rw [hl]; exact hv.sees) (by omega) 9 (by decide) (by omega)
  rw [show (9 : Int).toNat = 9 from rfl, sto_read 60 [97] [] (by decide) (by decide)] at r
  refine r.mono ?_
  rintro _ s2 ⟨o, rfl, ho, -, k2⟩
  have hl2 : (8 * (sto [97]).length + 7) / 8 = 6 := by rw [List.append_nil] at hl; omega
  rw [hl2]
  have hst := ho.sees.str (P := Try.prog) (dst := 9) Try.underlying22 Try.underlying9 Try.underlying5
  simp (config := { maxSteps := 1000000, implicitDefEqProofs := false }) (disch := omega) only [allW, allR, wfn_ret, wfn_normal, oneOf, evalAll, partsA, optA, Nat.reduceLT, Nat.reduceLeDiff, Nat.reduceEqDiff, Nat.reduceAdd, ↓reduceIte, undef, hn, ext0F, ext1F, ext2F, decide_true, (show ((6 : Nat) : Int) = 6 from rfl), hst, str_eql, Try.results10]
  exact k1.trans (k2.weaken k1.next)
end Go.Proofs.Ytnclklboogdoiaa
