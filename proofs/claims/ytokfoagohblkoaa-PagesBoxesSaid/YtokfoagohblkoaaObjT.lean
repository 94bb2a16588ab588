/-
  Objects: what is the same, what may be, entries put, cut, kept.
-/
import Derived.Test.YtokfoagohblkoaaObj
import Derived.Test.YtokfoagohblkoaaRul
import Derived.Test.YtokfoagohblkoaaStr
import Derived.Lib.Bytealg
import Derived.Test.YtokfoagohblkoaaAgg
namespace Go.Cl
inductive SameO : O → O → Prop
  | mk {k n n' : Int} {b b' : List UInt8} {l l' : List O} {d d' : List (List UInt8 × O)} (hn : (k = 1 ∨ k = 2 ∨ k = 3 ∨ k = 9) → n = n') (hb : (k = 4 ∨ k = 5 ∨ k = 8) → b = b')
      (hl : k = 6 → l.length = l'.length) (hL : k = 6 → ∀ i (h : i < l.length) (h' : i < l'.length), SameO l[i] l'[i])
      (hd : (k = 7 ∨ k = 8) → d.length = d'.length) (hK : (k = 7 ∨ k = 8) → ∀ i (h : i < d.length) (h' : i < d'.length), d[i].1 = d'[i].1) (hD : (k = 7 ∨ k = 8) → ∀ i (h : i < d.length) (h' : i < d'.length), SameO d[i].2 d'[i].2) : SameO (.mk k n b l d) (.mk k n' b' l' d')
theorem SameO.inv {k k' n n' : Int} {b b' : List UInt8} {l l' : List O} {d d' : List (List UInt8 × O)} (h : SameO (.mk k n b l d) (.mk k' n' b' l' d')) : k = k' ∧ ((k = 1 ∨ k = 2 ∨ k = 3 ∨ k = 9) → n = n') ∧ ((k = 4 ∨ k = 5 ∨ k = 8) → b = b') ∧ (k = 6 → l.length = l'.length) ∧ (k = 6 → ∀ i (h : i < l.length) (h' : i < l'.length), SameO l[i] l'[i]) ∧
    ((k = 7 ∨ k = 8) → d.length = d'.length) ∧ ((k = 7 ∨ k = 8) → ∀ i (h : i < d.length) (h' : i < d'.length), d[i].1 = d'[i].1) ∧ ((k = 7 ∨ k = 8) → ∀ i (h : i < d.length) (h' : i < d'.length), SameO d[i].2 d'[i].2) := by
  cases h with
  | mk hn hb hl hL hd hK hD => exact ⟨rfl, hn, hb, hl, hL, hd, hK, hD⟩
theorem SameO.refl : ∀ (N : Nat) (a : O), SizeOf.sizeOf a ≤ N → SameO a a := by
  intro N
  induction N with
  | zero => intro a h; cases a; simp at h
  | succ N ih =>
    intro a h
    cases a with
    | mk k n b l d =>
      exact .mk (fun _ => rfl) (fun _ => rfl) (fun _ => rfl) (fun _ i h1 h2 => ih _ (by have := O.items_lt (k := k) (n := n) (b := b) (l := l) (d := d) (List.getElem_mem h1); omega)) (fun _ => rfl) (fun _ i _ _ => rfl) (fun _ i h1 h2 => ih _ (by have := O.ents_lt (k := k) (n := n) (b := b) (l := l) (d := d) (List.getElem_mem h1); omega))
theorem SameO.self (a : O) : SameO a a := SameO.refl _ a (Nat.le_refl _)
theorem SameO.symm {a b : O} (h : SameO a b) : SameO b a := by
  induction h with
  | mk hn hb hl hL hd hK hD iL iD => exact .mk (fun h => (hn h).symm) (fun h => (hb h).symm) (fun h => (hl h).symm) (fun h i h1 h2 => iL h i h2 h1) (fun h => (hd h).symm) (fun h i h1 h2 => (hK h i h2 h1).symm) (fun h i h1 h2 => iD h i h2 h1)
theorem upto_next {p : Nat → Prop} {i : Nat} (h : ∀ j, j < i → p j) (hi : p i) : ∀ j, j < i + 1 → p j := by
  intro j hj
  rcases Nat.lt_succ_iff_lt_or_eq.mp hj with h1 | h1
  · exact h j h1
  · rw [h1]; exact hi
theorem Thing.loadMid {P : Program} {e : TypeId} {n : Nat} (hag : isAggB P e = some true) (hsz : sizeB P e = some n) {s : ASt} {i : Nat} {cs : List Value} (h : Thing s i cs) {off c : Nat} (hc : c = cs.length + 1) (ho : off + n ≤ cs.length) :
    loadA P s e (.pointer (some ⟨i, off, some c⟩)) = some (.agg ((cs.drop off).take n).toArray) := by
  obtain ⟨low, z, h1, h2⟩ := h.blk
  subst hc
  unfold loadA
  simp only [hag, hsz]
  rw [cellsAt_eq h1 h2 (Nat.le_refl _) (by omega)]
end Go.Cl
namespace Go.Cl
def NameB (b : List UInt8) : Prop := b.length ≤ 127 ∧ ∀ i (h : i < b.length), b[i].toNat ≠ 0
def Rises (x y : List UInt8) : Prop := ¬ (Op.bytesLess y x || y == x) = true
inductive MayO : Int → O → Prop
  | mk {p k n : Int} {b : List UInt8} {l : List O} {d : List (List UInt8 × O)} (h1 : l ≠ [] → k = 6) (h2 : d ≠ [] → k = 7 ∨ k = 8) (h3 : b ≠ [] → k = 4 ∨ k = 5 ∨ k = 8) (hk : 0 ≤ k ∧ k ≤ 9)
      (n1 : k = 1 → n = 0 ∨ n = 1) (n2 : k = 2 → -2147483647 ≤ n ∧ n ≤ 2147483647) (n3 : k = 3 → -214748364799999 ≤ n ∧ n ≤ 214748364799999) (n9 : k = 9 → 1 ≤ n ∧ n ≤ 8388607) (n0 : k ≠ 1 → k ≠ 2 → k ≠ 3 → k ≠ 9 → n = 0)
      (b4 : k = 4 → b.length ≤ 32767) (b5 : k = 5 → NameB b) (p6 : k = 6 → 1 ≤ p) (l6 : k = 6 → ∀ i (h : i < l.length), l[i].kind ≠ 8) (m6 : k = 6 → ∀ i (h : i < l.length), MayO (p - 1) l[i])
      (p7 : k = 7 ∨ k = 8 → 1 ≤ p) (b7 : k = 7 ∨ k = 8 → b.length ≤ 16777216) (e7 : k = 7 ∨ k = 8 → ∀ i (h : i < d.length), NameB d[i].1 ∧ d[i].2.kind ≠ 8 ∧ d[i].2.kind ≠ 0) (m7 : k = 7 ∨ k = 8 → ∀ i (h : i < d.length), MayO (p - 1) d[i].2)
      (r7 : k = 7 ∨ k = 8 → ∀ i (h : i + 1 < d.length), Rises d[i].1 d[i + 1].1) : MayO p (.mk k n b l d)
section
variable {p k n : Int} {b : List UInt8} {l : List O} {d : List (List UInt8 × O)} (g1 : l ≠ [] → k = 6) (g2 : d ≠ [] → k = 7 ∨ k = 8) (g3 : b ≠ [] → k = 4 ∨ k = 5 ∨ k = 8)
include g1 g2 g3
omit g1 g2 g3 in
omit g1 g2 g3 in
end
section
variable {P : Program} {t : TypeId}
end
end Go.Cl
namespace Go.Cl
open Go.Lib
end Go.Cl
namespace Go.Cl
end Go.Cl
namespace Go.Cl
section
variable {α : Type} {Q : (Nat → Prop) → ASt → List Value → α → Prop} {z : Nat} {F : Nat → Prop} {s : ASt} {D E : List α} {l m : List Value}
theorem ORows.take (h : ORows Q z F s D l) (k : Nat) (hk : k ≤ D.length) : ORows Q z F s (D.take k) (l.take (k * z)) := by
  have hz : k * z ≤ D.length * z := Nat.mul_le_mul_right z hk
  have e := h.len
  refine ⟨by rw [List.length_take, List.length_take, Nat.min_eq_left hk]; omega, fun i hi => ?_⟩
  have hi' : i < k := by rw [List.length_take] at hi; omega
  have hz2 : (i + 1) * z ≤ k * z := Nat.mul_le_mul_right z hi'
  rw [Nat.succ_mul] at hz2
  have := h.row i (by omega)
  rw [List.getElem_take, List.drop_take, List.take_take, Nat.min_eq_left (by omega)]
  exact this
theorem ORows.drop (h : ORows Q z F s D l) (k : Nat) (hk : k ≤ D.length) : ORows Q z F s (D.drop k) (l.drop (k * z)) := by
  have e := h.len
  refine ⟨by rw [List.length_drop, List.length_drop, e, Nat.sub_mul], fun i hi => ?_⟩
  have hi' : k + i < D.length := by rw [List.length_drop] at hi; omega
  have := h.row (k + i) hi'
  rw [List.getElem_drop, List.drop_drop, ← Nat.add_mul]
  exact this
theorem ORows.append (h : ORows Q z F s D l) (k : ORows Q z F s E m) : ORows Q z F s (D ++ E) (l ++ m) := by
  have e := h.len
  refine ⟨by rw [List.length_append, List.length_append, e, k.len, Nat.add_mul], fun i hi => ?_⟩
  by_cases hlt : i < D.length
  · have hz : (i + 1) * z ≤ D.length * z := Nat.mul_le_mul_right z hlt
    rw [Nat.succ_mul] at hz
    rw [List.getElem_append_left hlt, List.drop_append_of_le_length (by omega), List.take_append_of_le_length (by rw [List.length_drop]; omega)]
    exact h.row i hlt
  · have hi' : i - D.length < E.length := by rw [List.length_append] at hi; omega
    have hz : D.length * z ≤ i * z := Nat.mul_le_mul_right z (by omega)
    rw [List.getElem_append_right (by omega), List.drop_append, List.drop_eq_nil_of_le (by omega), List.nil_append, e, ← Nat.sub_mul]
    exact k.row _ hi'
end
end Go.Cl
namespace Go.Cl
open Go.Lib
end Go.Cl
namespace Go.Cl
def O.has (o : O) : Bool := decide (o.kind = 7) || decide (o.kind = 8)
end Go.Cl
namespace Go.Cl
end Go.Cl
