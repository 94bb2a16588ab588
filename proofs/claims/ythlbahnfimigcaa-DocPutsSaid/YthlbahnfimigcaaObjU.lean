/-
 Objects: the numbers that one names.
-/
import Derived.Test.YthlbahnfimigcaaObjT
namespace Go.Cl
def partsO : O -> List O
 | .mk k _ _ l d => if k = 6 then l else if k = 7 ∨ k = 8 then d.map (·.2) else []
theorem partsO_mk (k n : Int) (b : List UInt8) (l : List O) (d : List (List UInt8 × O)) : partsO (.mk k n b l d) = if k = 6 then l else if k = 7 ∨ k = 8 then d.map (·.2) else [] := rfl
theorem partsO_lt {o x : O} (h : x ∈ partsO o) : SizeOf.sizeOf x < SizeOf.sizeOf o := by
 cases o with
 | mk k n b l d =>
  have h : x ∈ (if k = 6 then l else if k = 7 ∨ k = 8 then d.map (·.2) else []) := h
  by_cases h6 : k = 6
  ·rw [if_pos h6] at h
   exact O.items_lt h
  ·rw [if_neg h6] at h
   by_cases h7 : k = 7 ∨ k = 8
   ·rw [if_pos h7] at h
    obtain ⟨e, he, rfl⟩ := List.mem_map.1 h
    exact O.ents_lt he
   ·rw [if_neg h7] at h; cases h
def refsN : Nat -> O -> List Int
 | 0, _ => []
 | m + 1, o => if o.kind = 9 then [o.num] else (partsO o).flatMap (refsN m)
noncomputable def refsO (o : O) : List Int := refsN (SizeOf.sizeOf o) o
theorem flatMap_same {α β : Type} {f g : α -> List β} : ∀ {l : List α}, (∀ x ∈ l, f x = g x) -> l.flatMap f = l.flatMap g
 | [], _ => rfl
 | x :: l, h => by
  rw [List.flatMap_cons, List.flatMap_cons, h x (List.mem_cons_self ..), flatMap_same (fun y hy => h y (List.mem_cons_of_mem _ hy))]
theorem O.size_pos (o : O) : 0 < SizeOf.sizeOf o := by cases o; simp only [O.mk.sizeOf_spec]; omega
theorem refsN_same : ∀ (m m' : Nat) (o : O), SizeOf.sizeOf o ≤ m -> SizeOf.sizeOf o ≤ m' -> refsN m o = refsN m' o
 | 0, _, o, h, _ => by have := o.size_pos; omega
 | _ + 1, 0, o, _, h => by have := o.size_pos; omega
 | m + 1, m' + 1, o, h, h' => by
  unfold refsN
  split
  ·rfl
  ·exact flatMap_same (fun x hx => refsN_same m m' x (by have := partsO_lt hx; omega) (by have := partsO_lt hx; omega))
theorem refsO_eq (o : O) : refsO o = if o.kind = 9 then [o.num] else (partsO o).flatMap refsO := by
 unfold refsO
 obtain ⟨q, hq⟩ : ∃ q, SizeOf.sizeOf o = q + 1 := ⟨SizeOf.sizeOf o - 1, by have := o.size_pos; omega⟩
 rw [hq]
 show (if o.kind = 9 then [o.num] else (partsO o).flatMap (refsN q)) = _
 split
 ·rfl
 ·exact flatMap_same (fun x hx => refsN_same q _ x (by have := partsO_lt hx; omega) (Nat.le_refl _))
theorem refsO_ref {k n : Int} {b : List UInt8} {l : List O} {d : List (List UInt8 × O)} (h : k = 9) : refsO (.mk k n b l d) = [n] := by
 rw [refsO_eq]; exact if_pos h
theorem refsO_parts {o : O} (h : o.kind ≠ 9) : refsO o = (partsO o).flatMap refsO := by
 rw [refsO_eq, if_neg h]
theorem flat_take {l : List O} {i : Nat} (h : i < l.length) : (l.take (i + 1)).flatMap refsO = (l.take i).flatMap refsO ++ refsO l[i] := by
 rw [List.take_add_one, List.getElem?_eq_getElem h, List.flatMap_append]; simp
theorem flat_take_le (l : List O) (i : Nat) : ((l.take i).flatMap refsO).length ≤ (l.flatMap refsO).length := by
 conv => rhs; rw [← List.take_append_drop i l, List.flatMap_append, List.length_append]
 omega
def intsV (l : List Int) : List Value := l.map (.int .i64)
theorem intsV_length (l : List Int) : (intsV l).length = l.length := List.length_map ..
theorem intsV_append (a b : List Int) : intsV (a ++ b) = intsV a ++ intsV b := List.map_append ..
theorem intsV_ok : ∀ l : List Int, (intsV l).all okCell = true
 | [] => rfl
 | _ :: l => by show (true && (intsV l).all okCell) = true; rw [intsV_ok l]; rfl
end Go.Cl