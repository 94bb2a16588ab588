/-
  Objects of this program: an argument that is one; its fields.
-/
import Derived.Test.YtdhdhbkikhedlaaTy
import Derived.Test.YtdhdhbkikhedlaaObjA
set_option linter.unusedSimpArgs false
set_option linter.unusedVariables false
set_option maxRecDepth 100000
namespace Go.Cl
theorem chunk6 {lc r : List Value} {i : Nat} {a : Value} (h : (lc.drop (i * 6)).take 6 = a :: r) : lc.getD (i * 6) undef = a ∧ (lc.drop (i * 6 + 1)).take 5 = r := by
  constructor
  · have h0 : ((lc.drop (i * 6)).take 6)[0]? = some a := by rw [h]; rfl
    rw [List.getElem?_take_of_lt (by omega), List.getElem?_drop, Nat.add_zero] at h0
    rw [List.getD_eq_getElem?_getD, h0]; rfl
  · have h1 : ((lc.drop (i * 6)).take 6).drop 1 = r := by rw [h]; rfl
    rw [List.drop_take, List.drop_drop] at h1
    exact h1
theorem bytes_rows {lc : List Value} {D : List UInt8} (hl : lc.length = D.length) (h : ∀ i (h : i < D.length), (lc.drop (i * 1)).take 1 = [.int .u8 ((D[i]).toNat : Int)]) : lc = ofBytes D := by
  refine List.ext_getElem? fun i => ?_
  by_cases hi : i < D.length
  · have h0 : ((lc.drop (i * 1)).take 1)[0]? = some (.int .u8 ((D[i]).toNat : Int)) := by rw [h i hi]; rfl
    rw [List.getElem?_take_of_lt (by omega), List.getElem?_drop, Nat.add_zero, Nat.mul_one] at h0
    rw [h0]; simp [ofBytes, List.getElem?_eq_getElem hi]
  · rw [List.getElem?_eq_none (by omega), List.getElem?_eq_none (by rw [ofBytes_length]; omega)]
end Go.Cl
namespace Go.Proofs.Ytdhdhbkikhedlaa
open Go.Cl
theorem coO : Try.prog.cellsOf 26 = 5 := by kernel_rfl
theorem coE : Try.prog.cellsOf 32 = 6 := by kernel_rfl
theorem coI : Try.prog.cellsOf 3 = 1 := by kernel_rfl
theorem coI64 : Try.prog.cellsOf 2 = 1 := by kernel_rfl
theorem coU8 : Try.prog.cellsOf 5 = 1 := by kernel_rfl
theorem coS : Try.prog.cellsOf 9 = 1 := by kernel_rfl
theorem coB : Try.prog.cellsOf 22 = 1 := by kernel_rfl
theorem coL : Try.prog.cellsOf 23 = 1 := by kernel_rfl
theorem coD : Try.prog.cellsOf 24 = 1 := by kernel_rfl
variable {H : Type} {enc : TypeId × Value → H} {W : World}
theorem coB1 : 1 ≤ Try.prog.bytesOf 5 := by rw [show Try.prog.bytesOf 5 = 1 from by kernel_rfl]; decide
theorem coO1 : 88 ≤ Try.prog.bytesOf 26 := by rw [show Try.prog.bytesOf 26 = 88 from by kernel_rfl]; decide
theorem coE1 : 104 ≤ Try.prog.bytesOf 32 := by rw [show Try.prog.bytesOf 32 = 104 from by kernel_rfl]; decide
theorem reach_eq : reachBytes = 140737488351232 := by decide
def FitE (e : List UInt8 × O) : Prop := e.1.length ≤ 140737488351232 ∧ Fit e.2
end Go.Proofs.Ytdhdhbkikhedlaa
