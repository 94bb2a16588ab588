/-
  The clean machine: a few structs laid into a new slice.
-/
import Derived.Test.YtdhdhbkikhedlaaAgg
namespace Go.Cl
theorem buildAgg3 {P : Program} {s : ASt} {t e : TypeId} {z : Nat} {zv : Value} {a b c : Array Value} (hu : P.underlying t = some (.slice e)) (hsz : sizeB P e = some z) (hz : zeroB P e = some zv) (hpl : plainV zv = true) (hzl : Nat.beq zv.cells.toList.length z = true) (ha : a.toList.length = z) (hb : b.toList.length = z) (hc : c.toList.length = z) (hz6 : z ≤ 1000) : buildSliceA P s t 3 [(0, .agg a), (1, .agg b), (2, .agg c)] = newSlice s (a.toList ++ b.toList ++ c.toList) 3 z := by
  unfold buildSliceA; rw [hu]
  have hzl' : zv.cells.toList.length = z := by simpa [Nat.beq_eq] using hzl
  obtain ⟨u, hu'⟩ : ∃ u, u = zv.cells.toList := ⟨_, rfl⟩
  have hr : repeatL zv.cells.toList 3 = u ++ (u ++ u) := by rw [← hu']; simp [repeatL]
  have hul : u.length = z := by rw [hu']; exact hzl'
  have hc0 : (Nat.ble (3 * z) 65536 && plainV zv && Nat.beq zv.cells.toList.length z) = true := by rw [hpl, hzl]; simp [Nat.ble_eq]; omega
  have e1 : setAt (u ++ (u ++ u)) (0 * z) a.toList = some (a.toList ++ (u ++ u)) := by
    rw [setAt_eq _ _ _ (by simp only [List.length_append]; omega), Nat.zero_mul, List.take_zero, List.nil_append, Nat.zero_add, List.drop_append, List.drop_eq_nil_of_le (by omega), List.nil_append, ha, hul, Nat.sub_self, List.drop_zero]
  have e2 : setAt (a.toList ++ (u ++ u)) (1 * z) b.toList = some (a.toList ++ (b.toList ++ u)) := by
    rw [setAt_eq _ _ _ (by simp only [List.length_append]; omega), Nat.one_mul, List.take_append_of_le_length (by omega), List.take_of_length_le (by omega), List.drop_append, List.drop_eq_nil_of_le (by omega), List.nil_append, hb, ha, List.drop_append, List.drop_eq_nil_of_le (by omega), List.nil_append, hul, List.append_assoc, Nat.add_sub_cancel, Nat.sub_self, List.drop_zero]
  have e3 : setAt (a.toList ++ (b.toList ++ u)) (2 * z) c.toList = some (a.toList ++ (b.toList ++ c.toList)) := by
    rw [setAt_eq _ _ _ (by simp only [List.length_append]; omega), ← List.append_assoc, List.take_append_of_le_length (by simp only [List.length_append]; omega), List.take_of_length_le (by simp only [List.length_append]; omega), List.drop_eq_nil_of_le (by simp only [List.length_append]; omega), List.append_nil, List.append_assoc]
  have c1 : (Nat.beq a.toList.length z && Nat.ble (0 * z + z) (u ++ (u ++ u)).length) = true := by simp [Nat.ble_eq, ha, hul]
  have c2 : (Nat.beq b.toList.length z && Nat.ble (1 * z + z) (a.toList ++ (u ++ u)).length) = true := by
    rw [hb, List.length_append, List.length_append, ha, hul]; simp [Nat.ble_eq] <;> omega
  have c3 : (Nat.beq c.toList.length z && Nat.ble (2 * z + z) (a.toList ++ (b.toList ++ u)).length) = true := by
    rw [hc, List.length_append, List.length_append, ha, hb, hul]; simp [Nat.ble_eq] <;> omega
  simp only [hsz, hz, hc0, hr, fillA, cells_agg, e1, e2, e3, c1, c2, c3, if_true, List.append_assoc]
end Go.Cl
