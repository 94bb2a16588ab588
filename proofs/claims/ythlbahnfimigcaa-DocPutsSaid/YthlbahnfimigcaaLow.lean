/-
 What a statement whose order is open looks at: old slices, their elements, fields.
-/
import Derived.Test.YthlbahnfimigcaaAgg
import Derived.Test.YthlbahnfimigcaaRecs
namespace Go.Cl
theorem LA.lowV_elemOld {A : Nat -> Bool} {s : ASt} {z : Nat} {v : Value} {n : Nat} {l : List Value} (h : Sees s z v n l) (hA : ∀ i, i < s.next -> A i = true) {k : Nat} (hk : k < n) : LA.lowV A (some (elemPtr z v k)) = true := by
 cases h with
 | nil => omega
 | bare => omega
 | of i off n c bl l hi hbb hz hl hc hlen hoff ht => simp only [elemPtr, LA.lowV]; exact hA i hi
theorem LA.lowV_plus {A : Nat -> Bool} {s : ASt} {z : Nat} {v : Value} {n : Nat} {l : List Value} (h : Sees s z v n l) (hA : ∀ i, i < s.next -> A i = true) {k : Nat} (hk : k < n) (j : Nat) : LA.lowV A (some (plusPtr (elemPtr z v k) j)) = true := by
 cases h with
 | nil => omega
 | bare => omega
 | of i off n c bl l hi hbb hz hl hc hlen hoff ht => simp only [elemPtr, plusPtr, LA.lowV]; exact hA i hi
end Go.Cl