/-
  Fonts in tables: the plain law of making.
-/
import Derived.Test.YtpdkppimlcbhlaaSfP
import Derived.Test.YtpdkppimlcbhlaaBigP
namespace Go.Cl.Sf
/-- What goes ahead of the codes. -/
def cmap0 : List UInt8 := [0, 0, 0, 1, 0, 1, 0, 0, 0, 0, 0, 12, 0, 0] ++ be 2 262 ++ [0, 0]
def mapB (gl : List Int) (k : Nat) : List UInt8 := (List.range k).map fun i => UInt8.ofNat (gl.getD i 0).toNat
def cmapB (gl : List Int) : List UInt8 := cmap0 ++ mapB gl 256
def hmtxB (W : List Int) (k : Nat) : List UInt8 := (W.take k).flatMap fun w => be 2 w.toNat ++ [0, 0]
def atB (size place n : Nat) : List UInt8 := List.replicate place 0 ++ be 2 n ++ List.replicate (size - (place + 2)) 0
def partsB (u : Nat) (W gl : List Int) : List (List UInt8) := [cmapB gl, atB 54 18 u, atB 36 34 W.length, hmtxB W W.length, atB 6 4 W.length]
def namesB : List (List UInt8) := [nCmap, nHead, nHhea, nHmtx, nMaxp]
def padB (n : Nat) : Nat := (4 - n % 4) % 4
def bodyTo (L : List (List UInt8)) : Nat → List UInt8
  | 0 => []
  | k + 1 => (bodyTo L k ++ L.getD k []) ++ List.replicate (padB (bodyTo L k ++ L.getD k []).length) 0
def rowB (L : List (List UInt8)) (k : Nat) : List UInt8 := namesB.getD k [] ++ [0, 0, 0, 0] ++ be 4 (92 + (bodyTo L k).length) ++ be 4 (L.getD k []).length
def outTo (L : List (List UInt8)) : Nat → List UInt8
  | 0 => [0, 1, 0, 0] ++ be 2 5 ++ List.replicate 6 0
  | k + 1 => outTo L k ++ rowB L k
/-- The font that is made. -/
def fontB (u : Nat) (W gl : List Int) : List UInt8 := outTo (partsB u W gl) 5 ++ bodyTo (partsB u W gl) 5
def wideW (W : List Int) : Bool := W.any fun w => decide (w < 0) || decide (65535 < w)
def noneG (n : Nat) (gl : List Int) : Bool := gl.any fun g => decide (g < 0) || decide (((min n 256 : Nat) : Int) ≤ g)
/-- What may not be made. -/
def badMk (u : Int) (W gl : List Int) : Prop := u < 16 ∨ 16384 < u ∨ W.length < 1 ∨ 1000 < W.length ∨ wideW W = true ∨ 256 < gl.length ∨ noneG W.length gl = true
instance (u : Int) (W gl : List Int) : Decidable (badMk u W gl) := by unfold badMk; infer_instance
theorem mapB_succ (gl : List Int) (k : Nat) : mapB gl (k + 1) = mapB gl k ++ [UInt8.ofNat (gl.getD k 0).toNat] := by simp [mapB, List.range_succ]
theorem mapB_length (gl : List Int) (k : Nat) : (mapB gl k).length = k := by simp [mapB]
theorem hmtxB_succ {W : List Int} {k : Nat} (h : k < W.length) : hmtxB W (k + 1) = hmtxB W k ++ be 2 (W.getD k 0).toNat ++ [0, 0] := by
  unfold hmtxB
  rw [List.take_add_one, List.getElem?_eq_getElem h, List.flatMap_append]
  simp only [Option.toList_some, List.flatMap_cons, List.flatMap_nil, List.append_nil, List.append_assoc, List.getD, List.getElem?_eq_getElem h, Option.getD_some]
theorem hmtxB_length {W : List Int} : ∀ k, k ≤ W.length → (hmtxB W k).length = 4 * k := by
  intro k
  induction k with
  | zero => intro _; simp [hmtxB]
  | succ k ih =>
    intro hk
    rw [hmtxB_succ (by omega), List.length_append, List.length_append, ih (by omega), be_length]
    simp; omega
theorem cmap0_length : cmap0.length = 18 := by decide +kernel
theorem cmapB_length (gl : List Int) : (cmapB gl).length = 274 := by rw [cmapB, List.length_append, cmap0_length, mapB_length]
theorem atB_length {size place n : Nat} (h : place + 2 ≤ size) : (atB size place n).length = size := by
  simp [atB, be_length]; omega
theorem padB_lt (n : Nat) : padB n < 4 := by unfold padB; omega
theorem rowB_length (L : List (List UInt8)) {k : Nat} (hk : k < 5) : (rowB L k).length = 16 := by
  unfold rowB
  have : (namesB.getD k []).length = 4 := by
    have : k = 0 ∨ k = 1 ∨ k = 2 ∨ k = 3 ∨ k = 4 := by omega
    rcases this with rfl | rfl | rfl | rfl | rfl <;> rfl
  rw [List.length_append, List.length_append, List.length_append, this, be_length, be_length]; rfl
theorem outTo_length (L : List (List UInt8)) : ∀ k, k ≤ 5 → (outTo L k).length = 12 + 16 * k := by
  intro k
  induction k with
  | zero => intro _; simp [outTo, be_length]
  | succ k ih => intro hk; rw [outTo, List.length_append, ih (by omega), rowB_length L (by omega)]; omega
theorem parts_le {u : Nat} {W gl : List Int} (hW : W.length ≤ 1000) {k : Nat} (hk : k < 5) : ((partsB u W gl).getD k []).length ≤ 4000 := by
  have : k = 0 ∨ k = 1 ∨ k = 2 ∨ k = 3 ∨ k = 4 := by omega
  rcases this with rfl | rfl | rfl | rfl | rfl
  · show (cmapB gl).length ≤ 4000; rw [cmapB_length]; omega
  · show (atB 54 18 u).length ≤ 4000; rw [atB_length (by omega)]; omega
  · show (atB 36 34 W.length).length ≤ 4000; rw [atB_length (by omega)]; omega
  · show (hmtxB W W.length).length ≤ 4000; rw [hmtxB_length _ (Nat.le_refl _)]; omega
  · show (atB 6 4 W.length).length ≤ 4000; rw [atB_length (by omega)]; omega
theorem body_le {u : Nat} {W gl : List Int} (hW : W.length ≤ 1000) : ∀ k, k ≤ 5 → (bodyTo (partsB u W gl) k).length ≤ 4003 * k := by
  intro k
  induction k with
  | zero => intro _; simp [bodyTo]
  | succ k ih =>
    intro hk
    have h1 := ih (by omega)
    have h2 := parts_le (u := u) (gl := gl) hW (k := k) (by omega)
    have h3 := padB_lt (bodyTo (partsB u W gl) k ++ (partsB u W gl).getD k []).length
    rw [bodyTo, List.length_append, List.length_replicate, List.length_append]
    rw [List.length_append] at h3
    omega
theorem wideW_false {W : List Int} (h : wideW W = false) : ∀ w ∈ W, 0 ≤ w ∧ w ≤ 65535 := by
  intro w hw
  have := List.any_eq_false.mp h w hw
  simp at this
  omega
theorem noneG_false {n : Nat} {gl : List Int} (h : noneG n gl = false) : ∀ g ∈ gl, 0 ≤ g ∧ g < n ∧ g < 256 := by
  intro g hg
  have := List.any_eq_false.mp h g hg
  simp at this
  omega
theorem getDI_mem {l : List Int} {i : Nat} (h : i < l.length) : l.getD i 0 ∈ l := by
  simp only [List.getD, List.getElem?_eq_getElem h, Option.getD_some]; exact List.getElem_mem _
end Go.Cl.Sf
