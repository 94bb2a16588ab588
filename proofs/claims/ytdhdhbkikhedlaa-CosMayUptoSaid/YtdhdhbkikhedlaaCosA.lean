/-
  Objects: the types' sizes, fields; the reference's Copy.
-/
import Derived.Test.YtdhdhbkikhedlaaObjB
import Derived.Test.YtdhdhbkikhedlaaCopy
import Derived.Test.YtdhdhbkikhedlaaLooseB
import Derived.Test.YtdhdhbkikhedlaaCopyW
import Derived.Test.YtdhdhbkikhedlaaStr
import Derived.Test.YtdhdhbkikhedlaaLibR
set_option linter.unusedSimpArgs false
set_option linter.unusedVariables false
set_option maxRecDepth 100000
namespace Go.Proofs.Ytdhdhbkikhedlaa
open Go.Cl
theorem szO : sizeB Try.prog 26 = some 5 := by kernel_rfl
theorem agO : isAggB Try.prog 26 = some true := by kernel_rfl
theorem zO : zeroB Try.prog 26 = some (.agg noneC.toArray) := by kernel_rfl
theorem plO : plainV (.agg noneC.toArray) = true := by kernel_rfl
theorem byO : bytesB Try.prog 26 = some 88 := by kernel_rfl
theorem szE : sizeB Try.prog 32 = some 6 := by kernel_rfl
theorem agE : isAggB Try.prog 32 = some true := by kernel_rfl
theorem byE : bytesB Try.prog 32 = some 104 := by kernel_rfl
def noneE : List Value := .string ⟨#[]⟩ :: noneC
theorem zE : zeroB Try.prog 32 = some (.agg noneE.toArray) := by kernel_rfl
theorem plE : plainV (.agg noneE.toArray) = true := by kernel_rfl
theorem szI64 : sizeB Try.prog 2 = some 1 := by kernel_rfl
theorem agI64 : isAggB Try.prog 2 = some false := by kernel_rfl
theorem szStr : sizeB Try.prog 9 = some 1 := by kernel_rfl
theorem agStr : isAggB Try.prog 9 = some false := by kernel_rfl
theorem szLs : sizeB Try.prog 23 = some 1 := by kernel_rfl
theorem agLs : isAggB Try.prog 23 = some false := by kernel_rfl
theorem szDs : sizeB Try.prog 24 = some 1 := by kernel_rfl
theorem agDs : isAggB Try.prog 24 = some false := by kernel_rfl
theorem of0 (i o c : Nat) : fieldAddrA Try.prog 26 (.pointer (some ⟨i, o, some c⟩)) 0 = some (.pointer (some ⟨i, o + 0, some c⟩)) := by
  unfold fieldAddrA; rw [Try.underlying26]; simp [szInt, szI64, szSl, szLs, szDs]
theorem of1 (i o c : Nat) : fieldAddrA Try.prog 26 (.pointer (some ⟨i, o, some c⟩)) 1 = some (.pointer (some ⟨i, o + 1, some c⟩)) := by
  unfold fieldAddrA; rw [Try.underlying26]; simp [szInt, szI64, szSl, szLs, szDs]
theorem of2 (i o c : Nat) : fieldAddrA Try.prog 26 (.pointer (some ⟨i, o, some c⟩)) 2 = some (.pointer (some ⟨i, o + 2, some c⟩)) := by
  unfold fieldAddrA; rw [Try.underlying26]; simp [szInt, szI64, szSl, szLs, szDs]
theorem of3 (i o c : Nat) : fieldAddrA Try.prog 26 (.pointer (some ⟨i, o, some c⟩)) 3 = some (.pointer (some ⟨i, o + 3, some c⟩)) := by
  unfold fieldAddrA; rw [Try.underlying26]; simp [szInt, szI64, szSl, szLs, szDs]
theorem of4 (i o c : Nat) : fieldAddrA Try.prog 26 (.pointer (some ⟨i, o, some c⟩)) 4 = some (.pointer (some ⟨i, o + 4, some c⟩)) := by
  unfold fieldAddrA; rw [Try.underlying26]; simp [szInt, szI64, szSl, szLs, szDs]
theorem efE {s : ASt} {v : Value} {n : Nat} {l : List Value} (h : Sees s 6 v n l) {k : Nat} (hk : k < n) : fieldAddrA Try.prog 32 (elemPtr 6 v k) 0 = some (plusPtr (elemPtr 6 v k) 0) ∧ fieldAddrA Try.prog 32 (elemPtr 6 v k) 1 = some (plusPtr (elemPtr 6 v k) 1) := by
  obtain ⟨i, off, c, e, _⟩ := h.cells hk
  rw [e]
  refine ⟨?_, ?_⟩ <;> · unfold fieldAddrA; rw [Try.underlying32]; simp [szStr, szO, plusPtr]
theorem bO3 (k n : Int) {b : Value} (hb : b.cells.toList = [b]) : buildA Try.prog 26 [(0, .int .i64 k), (1, .int .i64 n), (2, b)] = some (.agg #[.int .i64 k, .int .i64 n, b, .slice none 0 0, .slice none 0 0]) := by
  unfold buildA; rw [Try.underlying26]
  have hz : zeroB Try.prog 26 = some (.agg #[.int .i64 0, .int .i64 0, .slice none 0 0, .slice none 0 0, .slice none 0 0]) := by kernel_rfl
  rw [hz]
  have ci : ∀ k n, (Value.int k n).cells = #[.int k n] := fun _ _ => rfl
  simp [szInt, szI64, szSl, szLs, szDs, plainV, plain1, fillA, placeOf, cells_agg, setAt, ci, hb]
theorem bE (a : List UInt8) {cs : List Value} (hc : cs.length = 5) : buildA Try.prog 32 [(0, .string ⟨a.toArray⟩), (1, .agg cs.toArray)] = some (.agg (.string ⟨a.toArray⟩ :: cs).toArray) := by
  unfold buildA; rw [Try.underlying32]
  have hz : zeroB Try.prog 32 = some (.agg #[.string ⟨#[]⟩, .int .i64 0, .int .i64 0, .slice none 0 0, .slice none 0 0, .slice none 0 0]) := by kernel_rfl
  rw [hz]
  have cs' : ∀ b, (Value.string b).cells = #[.string b] := fun _ => rfl
  match cs, hc with
  | [a, b, c, d, e], _ => simp [szStr, szO, plainV, plain1, fillA, placeOf, cells_agg, setAt, cs']
def NewO (s : ASt) (o : O) (v : Value) (s' : ASt) : Prop := ∃ cs, v = .agg cs.toArray ∧ OIs (fun j => s.next ≤ j) s' cs o ∧ Stay s.next s s'
def NewL (s : ASt) (o : O) (v : Value) (s' : ASt) : Prop := ∃ k n b l d bv lv dv lc dc, o = .mk k n b l d ∧ v = .agg #[.int .i64 k, .int .i64 n, bv, lv, dv] ∧ Own s' 5 lv l.length lc ∧ Fresh s.next lv ∧ Sees s' 1 bv b.length (ofBytes b) ∧ Sees s' 6 dv d.length dc ∧ Foot (fun j => s.next ≤ j ∧ idOf lv ≠ some j) bv ∧ Foot (fun j => s.next ≤ j ∧ idOf lv ≠ some j) dv ∧ ORows OIs 5 (fun j => s.next ≤ j ∧ idOf lv ≠ some j) s' l lc ∧ ORows EntIs 6 (fun j => s.next ≤ j ∧ idOf lv ≠ some j) s' d dc ∧ Stay s.next s s'
theorem NewL.new {s s' : ASt} {o : O} {v : Value} (h : NewL s o v s') : NewO s o v s' := by
  obtain ⟨k, n, b, l, d, bv, lv, dv, lc, dc, rfl, rfl, h1, h2, h3, h4, h5, h6, h7, h8, h9⟩ := h
  have hm : ∀ j, s.next ≤ j ∧ idOf lv ≠ some j → s.next ≤ j := fun j hj => hj.1
  exact ⟨_, rfl, OIs.whole h3 h1.sees h4 (h5.mono hm) (Foot.fresh h2) (h6.mono hm) (h7.mono rowedO hm) (h8.mono rowedE hm), h9⟩
end Go.Proofs.Ytdhdhbkikhedlaa
