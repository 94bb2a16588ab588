/-
  Objects: how deep one goes.
-/
import Derived.Test.YtdhdhbkikhedlaaObjU
namespace Go.Cl
def depN : Nat → O → Nat
  | 0, _ => 0
  | m + 1, o => if o.kind = 6 ∨ o.kind = 7 ∨ o.kind = 8 then ((partsO o).map (depN m)).foldl max 0 + 1 else 0
noncomputable def depO (o : O) : Nat := depN (SizeOf.sizeOf o) o
theorem depN_same : ∀ (m m' : Nat) (o : O), SizeOf.sizeOf o ≤ m → SizeOf.sizeOf o ≤ m' → depN m o = depN m' o
  | 0, _, o, h, _ => by have := o.size_pos; omega
  | _ + 1, 0, o, _, h => by have := o.size_pos; omega
  | m + 1, m' + 1, o, h, h' => by
    unfold depN
    split
    · rw [List.map_congr_left (fun x hx => depN_same m m' x (by have := partsO_lt hx; omega) (by have := partsO_lt hx; omega))]
    · rfl
theorem depO_eq (o : O) : depO o = if o.kind = 6 ∨ o.kind = 7 ∨ o.kind = 8 then ((partsO o).map depO).foldl max 0 + 1 else 0 := by
  unfold depO
  obtain ⟨q, hq⟩ : ∃ q, SizeOf.sizeOf o = q + 1 := ⟨SizeOf.sizeOf o - 1, by have := o.size_pos; omega⟩
  rw [hq]
  show (if o.kind = 6 ∨ o.kind = 7 ∨ o.kind = 8 then ((partsO o).map (depN q)).foldl max 0 + 1 else 0) = _
  split
  · congr 2
    exact List.map_congr_left (fun x hx => depN_same q _ x (by have := partsO_lt hx; omega) (Nat.le_refl _))
  · rfl
noncomputable def depU (l : List O) (i : Nat) : Nat := ((l.take i).map depO).foldl max 0
theorem depU_succ {l : List O} {i : Nat} (h : i < l.length) : depU l (i + 1) = max (depU l i) (depO l[i]) := by
  unfold depU
  rw [List.take_add_one, List.getElem?_eq_getElem h, List.map_append, List.foldl_append]
  rfl
theorem depU_all (l : List O) : depU l l.length = (l.map depO).foldl max 0 := by unfold depU; rw [List.take_length]
theorem foldl_max_le {l : List Nat} {m n : Nat} (hm : m ≤ n) (h : ∀ x ∈ l, x ≤ n) : l.foldl max m ≤ n := by
  induction l generalizing m with
  | nil => exact hm
  | cons a l ih => exact ih (Nat.max_le.2 ⟨hm, h a (List.mem_cons_self ..)⟩) (fun x hx => h x (List.mem_cons_of_mem _ hx))
theorem le_foldl_max {l : List Nat} {m : Nat} : m ≤ l.foldl max m := by
  induction l generalizing m with
  | nil => exact Nat.le_refl _
  | cons a l ih => exact Nat.le_trans (Nat.le_max_left _ _) ih
theorem mem_foldl_max {l : List Nat} {m x : Nat} (h : x ∈ l) : x ≤ l.foldl max m := by
  induction l generalizing m with
  | nil => cases h
  | cons a l ih =>
    rcases List.mem_cons.1 h with h | h
    · subst h; exact Nat.le_trans (Nat.le_max_right _ _) le_foldl_max
    · exact ih h
theorem depO_part {o x : O} (ho : o.kind = 6 ∨ o.kind = 7 ∨ o.kind = 8) (h : x ∈ partsO o) : depO x + 1 ≤ depO o := by
  rw [depO_eq o, if_pos ho]
  have : depO x ≤ ((partsO o).map depO).foldl max 0 := mem_foldl_max (List.mem_map_of_mem h)
  omega
theorem depU_le {o : O} (ho : o.kind = 6 ∨ o.kind = 7 ∨ o.kind = 8) (i : Nat) : depU (partsO o) i + 1 ≤ depO o := by
  rw [depO_eq o, if_pos ho]
  have : depU (partsO o) i ≤ ((partsO o).map depO).foldl max 0 := foldl_max_le (Nat.zero_le _) (fun x hx => by
    obtain ⟨y, hy, rfl⟩ := List.mem_map.1 hx
    exact mem_foldl_max (List.mem_map_of_mem (List.mem_of_mem_take hy)))
  omega
theorem max_next {l : List O} {i : Nat} (h : i < l.length) : (if depU l i < depO l[i] then ((depO l[i] : Nat) : Int) else ((depU l i : Nat) : Int)) = ((depU l (i + 1) : Nat) : Int) := by
  rw [depU_succ h]
  split
  · rw [Nat.max_eq_right (by omega)]
  · rw [Nat.max_eq_left (by omega)]
end Go.Cl
