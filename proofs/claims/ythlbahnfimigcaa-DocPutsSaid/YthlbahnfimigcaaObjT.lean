/-
 Objects: what is the same, what may be, entries put, cut, kept.
-/
import Derived.Test.YthlbahnfimigcaaObj
import Derived.Test.YthlbahnfimigcaaRul
import Derived.Test.YthlbahnfimigcaaStr
import Derived.Lib.Bytealg
import Derived.Test.YthlbahnfimigcaaAgg
namespace Go.Cl
inductive SameO : O -> O -> Prop
 | mk {k n n' : Int} {b b' : List UInt8} {l l' : List O} {d d' : List (List UInt8 × O)} (hn : (k = 1 ∨ k = 2 ∨ k = 3 ∨ k = 9) -> n = n') (hb : (k = 4 ∨ k = 5 ∨ k = 8) -> b = b')
   (hl : k = 6 -> l.length = l'.length) (hL : k = 6 -> ∀ i (h : i < l.length) (h' : i < l'.length), SameO l[i] l'[i])
   (hd : (k = 7 ∨ k = 8) -> d.length = d'.length) (hK : (k = 7 ∨ k = 8) -> ∀ i (h : i < d.length) (h' : i < d'.length), d[i].1 = d'[i].1) (hD : (k = 7 ∨ k = 8) -> ∀ i (h : i < d.length) (h' : i < d'.length), SameO d[i].2 d'[i].2) : SameO (.mk k n b l d) (.mk k n' b' l' d')
theorem SameO.inv {k k' n n' : Int} {b b' : List UInt8} {l l' : List O} {d d' : List (List UInt8 × O)} (h : SameO (.mk k n b l d) (.mk k' n' b' l' d')) : k = k' ∧ ((k = 1 ∨ k = 2 ∨ k = 3 ∨ k = 9) -> n = n') ∧ ((k = 4 ∨ k = 5 ∨ k = 8) -> b = b') ∧ (k = 6 -> l.length = l'.length) ∧ (k = 6 -> ∀ i (h : i < l.length) (h' : i < l'.length), SameO l[i] l'[i]) ∧
  ((k = 7 ∨ k = 8) -> d.length = d'.length) ∧ ((k = 7 ∨ k = 8) -> ∀ i (h : i < d.length) (h' : i < d'.length), d[i].1 = d'[i].1) ∧ ((k = 7 ∨ k = 8) -> ∀ i (h : i < d.length) (h' : i < d'.length), SameO d[i].2 d'[i].2) := by
 cases h with
 | mk hn hb hl hL hd hK hD => exact ⟨rfl, hn, hb, hl, hL, hd, hK, hD⟩
theorem SameO.refl : ∀ (N : Nat) (a : O), SizeOf.sizeOf a ≤ N -> SameO a a := by
 intro N
 induction N with
 | zero => intro a h; cases a; simp at h
 | succ N ih =>
  intro a h
  cases a with
  | mk k n b l d =>
   exact .mk (fun _ => rfl) (fun _ => rfl) (fun _ => rfl) (fun _ i h1 h2 => ih _ (by have := O.items_lt (k := k) (n := n) (b := b) (l := l) (d := d) (List.getElem_mem h1); omega)) (fun _ => rfl) (fun _ i _ _ => rfl) (fun _ i h1 h2 => ih _ (by have := O.ents_lt (k := k) (n := n) (b := b) (l := l) (d := d) (List.getElem_mem h1); omega))
theorem SameO.self (a : O) : SameO a a := SameO.refl _ a (Nat.le_refl _)
theorem SameO.symm {a b : O} (h : SameO a b) : SameO b a := by
 induction h with
 | mk hn hb hl hL hd hK hD iL iD => exact .mk (fun h => (hn h).symm) (fun h => (hb h).symm) (fun h => (hl h).symm) (fun h i h1 h2 => iL h i h2 h1) (fun h => (hd h).symm) (fun h i h1 h2 => (hK h i h2 h1).symm) (fun h i h1 h2 => iD h i h2 h1)
def Answers (p : Prop) (v : Value) : Prop := ∃ t : Bool, v = .bool t ∧ (t = true ↔ p)
theorem Answers.no {p : Prop} (h : ¬ p) : Answers p (.bool false) := ⟨false, rfl, ⟨fun h => by (cases h), fun k => absurd k h⟩⟩
theorem Answers.yes {p : Prop} (h : p) : Answers p (.bool true) := ⟨true, rfl, ⟨fun _ => h, fun _ => rfl⟩⟩
theorem upto_next {p : Nat -> Prop} {i : Nat} (h : ∀ j, j < i -> p j) (hi : p i) : ∀ j, j < i + 1 -> p j := by
 intro j hj
 rcases Nat.lt_succ_iff_lt_or_eq.mp hj with h1 | h1
 ·exact h j h1
 ·rw [h1]; exact hi
theorem Thing.loadMid {P : Program} {e : TypeId} {n : Nat} (hag : isAggB P e = some true) (hsz : sizeB P e = some n) {s : ASt} {i : Nat} {cs : List Value} (h : Thing s i cs) {off c : Nat} (hc : c = cs.length + 1) (ho : off + n ≤ cs.length) :
  loadA P s e (.pointer (some ⟨i, off, some c⟩)) = some (.agg ((cs.drop off).take n).toArray) := by
 obtain ⟨low, z, h1, h2⟩ := h.blk
 subst hc
 unfold loadA
 simp only [hag, hsz]
 rw [cellsAt_eq h1 h2 (Nat.le_refl _) (by omega)]
end Go.Cl
namespace Go.Cl
def NameB (b : List UInt8) : Prop := b.length ≤ 127 ∧ ∀ i (h : i < b.length), b[i].toNat ≠ 0
def Rises (x y : List UInt8) : Prop := ¬ (Op.bytesLess y x || y == x) = true
inductive MayO : Int -> O -> Prop
 | mk {p k n : Int} {b : List UInt8} {l : List O} {d : List (List UInt8 × O)} (h1 : l ≠ [] -> k = 6) (h2 : d ≠ [] -> k = 7 ∨ k = 8) (h3 : b ≠ [] -> k = 4 ∨ k = 5 ∨ k = 8) (hk : 0 ≤ k ∧ k ≤ 9)
   (n1 : k = 1 -> n = 0 ∨ n = 1) (n2 : k = 2 -> -2147483647 ≤ n ∧ n ≤ 2147483647) (n3 : k = 3 -> -214748364799999 ≤ n ∧ n ≤ 214748364799999) (n9 : k = 9 -> 1 ≤ n ∧ n ≤ 8388607) (n0 : k ≠ 1 -> k ≠ 2 -> k ≠ 3 -> k ≠ 9 -> n = 0)
   (b4 : k = 4 -> b.length ≤ 32767) (b5 : k = 5 -> NameB b) (p6 : k = 6 -> 1 ≤ p) (l6 : k = 6 -> ∀ i (h : i < l.length), l[i].kind ≠ 8) (m6 : k = 6 -> ∀ i (h : i < l.length), MayO (p - 1) l[i])
   (p7 : k = 7 ∨ k = 8 -> 1 ≤ p) (b7 : k = 7 ∨ k = 8 -> b.length ≤ 16777216) (e7 : k = 7 ∨ k = 8 -> ∀ i (h : i < d.length), NameB d[i].1 ∧ d[i].2.kind ≠ 8 ∧ d[i].2.kind ≠ 0) (m7 : k = 7 ∨ k = 8 -> ∀ i (h : i < d.length), MayO (p - 1) d[i].2)
   (r7 : k = 7 ∨ k = 8 -> ∀ i (h : i + 1 < d.length), Rises d[i].1 d[i + 1].1) : MayO p (.mk k n b l d)
def Inner (p : Int) (l : List O) : Prop := ∀ i (h : i < l.length), l[i].kind ≠ 8 ∧ MayO (p - 1) l[i]
def InnerE (p : Int) (d : List (List UInt8 × O)) : Prop := (∀ i (h : i < d.length), (NameB d[i].1 ∧ d[i].2.kind ≠ 8 ∧ d[i].2.kind ≠ 0) ∧ MayO (p - 1) d[i].2) ∧ ∀ i (h : i + 1 < d.length), Rises d[i].1 d[i + 1].1
theorem mayO_iff {p k n : Int} {b : List UInt8} {l : List O} {d : List (List UInt8 × O)} : MayO p (.mk k n b l d) ↔ (l ≠ [] -> k = 6) ∧ (d ≠ [] -> k = 7 ∨ k = 8) ∧ (b ≠ [] -> k = 4 ∨ k = 5 ∨ k = 8) ∧ (0 ≤ k ∧ k ≤ 9) ∧
  (k = 1 -> n = 0 ∨ n = 1) ∧ (k = 2 -> -2147483647 ≤ n ∧ n ≤ 2147483647) ∧ (k = 3 -> -214748364799999 ≤ n ∧ n ≤ 214748364799999) ∧ (k = 9 -> 1 ≤ n ∧ n ≤ 8388607) ∧ (k ≠ 1 -> k ≠ 2 -> k ≠ 3 -> k ≠ 9 -> n = 0) ∧
  (k = 4 -> b.length ≤ 32767) ∧ (k = 5 -> NameB b) ∧ (k = 6 -> 1 ≤ p ∧ Inner p l) ∧ (k = 7 ∨ k = 8 -> (1 ≤ p ∧ b.length ≤ 16777216) ∧ InnerE p d) := by
 constructor
 ·intro h
  cases h with
  | mk h1 h2 h3 hk n1 n2 n3 n9 n0 b4 b5 p6 l6 m6 p7 b7 e7 m7 r7 =>
   exact ⟨h1, h2, h3, hk, n1, n2, n3, n9, n0, b4, b5, fun h => ⟨p6 h, fun i hi => ⟨l6 h i hi, m6 h i hi⟩⟩, fun h => ⟨⟨p7 h, b7 h⟩, fun i hi => ⟨e7 h i hi, m7 h i hi⟩, r7 h⟩⟩
 ·rintro ⟨h1, h2, h3, hk, n1, n2, n3, n9, n0, b4, b5, a6, a7⟩
  exact .mk h1 h2 h3 hk n1 n2 n3 n9 n0 b4 b5 (fun h => (a6 h).1) (fun h i hi => ((a6 h).2 i hi).1) (fun h i hi => ((a6 h).2 i hi).2) (fun h => (a7 h).1.1) (fun h => (a7 h).1.2) (fun h i hi => ((a7 h).2.1 i hi).1) (fun h i hi => ((a7 h).2.1 i hi).2) (fun h => (a7 h).2.2)
section
variable {p k n : Int} {b : List UInt8} {l : List O} {d : List (List UInt8 × O)} (g1 : l ≠ [] -> k = 6) (g2 : d ≠ [] -> k = 7 ∨ k = 8) (g3 : b ≠ [] -> k = 4 ∨ k = 5 ∨ k = 8)
include g1 g2 g3
theorem may_1 (hk : k = 1) : MayO p (.mk k n b l d) ↔ (n = 0 ∨ n = 1) := by
 rw [mayO_iff]
 exact ⟨fun h => h.2.2.2.2.1 hk, fun h => ⟨g1, g2, g3, by omega, fun _ => h, fun e => by omega, fun e => by omega, fun e => by omega, fun e => by omega, fun e => by omega, fun e => by omega, fun e => by omega, fun e => by omega⟩⟩
theorem may_2 (hk : k = 2) : MayO p (.mk k n b l d) ↔ (-2147483647 ≤ n ∧ n ≤ 2147483647) := by
 rw [mayO_iff]
 exact ⟨fun h => h.2.2.2.2.2.1 hk, fun h => ⟨g1, g2, g3, by omega, fun e => by omega, fun _ => h, fun e => by omega, fun e => by omega, fun e => by omega, fun e => by omega, fun e => by omega, fun e => by omega, fun e => by omega⟩⟩
theorem may_3 (hk : k = 3) : MayO p (.mk k n b l d) ↔ (-214748364799999 ≤ n ∧ n ≤ 214748364799999) := by
 rw [mayO_iff]
 exact ⟨fun h => h.2.2.2.2.2.2.1 hk, fun h => ⟨g1, g2, g3, by omega, fun e => by omega, fun e => by omega, fun _ => h, fun e => by omega, fun e => by omega, fun e => by omega, fun e => by omega, fun e => by omega, fun e => by omega⟩⟩
theorem may_9 (hk : k = 9) : MayO p (.mk k n b l d) ↔ (1 ≤ n ∧ n ≤ 8388607) := by
 rw [mayO_iff]
 exact ⟨fun h => h.2.2.2.2.2.2.2.1 hk, fun h => ⟨g1, g2, g3, by omega, fun e => by omega, fun e => by omega, fun e => by omega, fun _ => h, fun e => by omega, fun e => by omega, fun e => by omega, fun e => by omega, fun e => by omega⟩⟩
theorem may_0 (hk : k = 0) (hn : n = 0) : MayO p (.mk k n b l d) := by
 rw [mayO_iff]
 exact ⟨g1, g2, g3, by omega, fun e => by omega, fun e => by omega, fun e => by omega, fun e => by omega, fun _ _ _ _ => hn, fun e => by omega, fun e => by omega, fun e => by omega, fun e => by omega⟩
theorem may_4 (hk : k = 4) (hn : n = 0) : MayO p (.mk k n b l d) ↔ b.length ≤ 32767 := by
 rw [mayO_iff]
 exact ⟨fun h => h.2.2.2.2.2.2.2.2.2.1 hk, fun h => ⟨g1, g2, g3, by omega, fun e => by omega, fun e => by omega, fun e => by omega, fun e => by omega, fun _ _ _ _ => hn, fun _ => h, fun e => by omega, fun e => by omega, fun e => by omega⟩⟩
theorem may_5 (hk : k = 5) (hn : n = 0) : MayO p (.mk k n b l d) ↔ NameB b := by
 rw [mayO_iff]
 exact ⟨fun h => h.2.2.2.2.2.2.2.2.2.2.1 hk, fun h => ⟨g1, g2, g3, by omega, fun e => by omega, fun e => by omega, fun e => by omega, fun e => by omega, fun _ _ _ _ => hn, fun e => by omega, fun _ => h, fun e => by omega, fun e => by omega⟩⟩
theorem may_6 (hk : k = 6) (hn : n = 0) : MayO p (.mk k n b l d) ↔ 1 ≤ p ∧ Inner p l := by
 rw [mayO_iff]
 exact ⟨fun h => h.2.2.2.2.2.2.2.2.2.2.2.1 hk, fun h => ⟨g1, g2, g3, by omega, fun e => by omega, fun e => by omega, fun e => by omega, fun e => by omega, fun _ _ _ _ => hn, fun e => by omega, fun e => by omega, fun _ => h, fun e => by omega⟩⟩
theorem may_7 (hk : k = 7 ∨ k = 8) (hn : n = 0) : MayO p (.mk k n b l d) ↔ (1 ≤ p ∧ b.length ≤ 16777216) ∧ InnerE p d := by
 rw [mayO_iff]
 exact ⟨fun h => h.2.2.2.2.2.2.2.2.2.2.2.2 hk, fun h => ⟨g1, g2, g3, by omega, fun e => by omega, fun e => by omega, fun e => by omega, fun e => by omega, fun _ _ _ _ => hn, fun e => by omega, fun e => by omega, fun e => by omega, fun _ => h⟩⟩
omit g1 g2 g3 in
theorem may_n (h : MayO p (.mk k n b l d)) (h1 : k ≠ 1) (h2 : k ≠ 2) (h3 : k ≠ 3) (h9 : k ≠ 9) : n = 0 := (mayO_iff.1 h).2.2.2.2.2.2.2.2.1 h1 h2 h3 h9
omit g1 g2 g3 in
theorem may_k (h : MayO p (.mk k n b l d)) : 0 ≤ k ∧ k ≤ 9 := (mayO_iff.1 h).2.2.2.1
end
section
variable {P : Program} {t : TypeId}
theorem str_leq (a b : List UInt8) : binA P .leq t (.string ⟨a.toArray⟩) (.string ⟨b.toArray⟩) = some (.bool (Op.bytesLess a b || a == b)) := by
 simp only [binA, strOp]
theorem wwant_cut {lib : Prims} {all r : List Oper} {o : Oper} {f : AFr} {s : ASt} {Q : AFr -> ASt -> Prop} {b : Bool} (J : AFr -> ASt -> Prop) (h1 : ∀ Q' : AFr -> ASt -> Prop, (∀ f' s', J f' s' -> Q' f' s') -> wwant P lib all o r f s Q' b) (h2 : ∀ f' s', J f' s' -> Q f' s') : wwant P lib all o r f s Q b := h1 Q h2
end
end Go.Cl
namespace Go.Cl
open Go.Lib
abbrev lessB (a b : List UInt8) : Bool := Op.bytesLess a b
theorem lessB_total : ∀ (a b : List UInt8), (lessB a b || a == b) = !(lessB b a)
 | [], [] => rfl
 | [], _ :: _ => rfl
 | _ :: _, [] => rfl
 | x :: a, y :: b => by
  have ih := lessB_total a b
  simp only [lessB] at ih ⊢
  simp only [Op.bytesLess, List.cons_beq_cons]
  by_cases h : x = y
  ·subst h
   have hx : ¬ x < x := UInt8.lt_irrefl x
   simp only [decide_eq_false hx, Bool.false_or, beq_self_eq_true, Bool.true_and]
   exact ih
  ·have h1 : (x == y) = false := by simpa using h
   have h2 : (y == x) = false := by simpa using Ne.symm h
   simp only [h1, h2, Bool.false_and, Bool.or_false]
   by_cases hl : x < y
   ·have : ¬ y < x := UInt8.not_lt.2 (UInt8.le_of_lt hl)
    simp [hl, this]
   ·have : y < x := UInt8.lt_of_le_of_ne (UInt8.not_lt.1 hl) (Ne.symm h)
    simp [hl, this]
def atE (d : List (List UInt8 × O)) (k : List UInt8) : Nat := d.findIdx (fun y => !(lessB y.1 k))
def others (k : List UInt8) (d : List (List UInt8 × O)) : List (List UInt8 × O) := d.filter (fun y => !(y.1 == k))
def putE (d : List (List UInt8 × O)) (e : List UInt8 × O) : List (List UInt8 × O) :=
 others e.1 (d.take (atE d e.1)) ++ (if e.2.kind = 0 then [] else [e]) ++ others e.1 (d.drop (atE d e.1))
def putAll (d l : List (List UInt8 × O)) : List (List UInt8 × O) := l.foldl putE d
end Go.Cl
namespace Go.Cl
end Go.Cl
namespace Go.Cl
section
variable {α : Type} {Q : (Nat -> Prop) -> ASt -> List Value -> α -> Prop} {z : Nat} {F : Nat -> Prop} {s : ASt} {D E : List α} {l m : List Value}
theorem ORows.take (h : ORows Q z F s D l) (k : Nat) (hk : k ≤ D.length) : ORows Q z F s (D.take k) (l.take (k * z)) := by
 have hz : k * z ≤ D.length * z := Nat.mul_le_mul_right z hk
 have e := h.len
 refine ⟨by rw [List.length_take, List.length_take, Nat.min_eq_left hk]; omega, fun i hi => ?_⟩
 have hi' : i < k := by rw [List.length_take] at hi; omega
 have hz2 : (i + 1) * z ≤ k * z := Nat.mul_le_mul_right z hi'
 rw [Nat.succ_mul] at hz2
 have := h.row i (by omega)
 rw [List.getElem_take, List.drop_take, List.take_take, Nat.min_eq_left (by omega)]
 exact this
theorem ORows.drop (h : ORows Q z F s D l) (k : Nat) (hk : k ≤ D.length) : ORows Q z F s (D.drop k) (l.drop (k * z)) := by
 have e := h.len
 refine ⟨by rw [List.length_drop, List.length_drop, e, Nat.sub_mul], fun i hi => ?_⟩
 have hi' : k + i < D.length := by rw [List.length_drop] at hi; omega
 have := h.row (k + i) hi'
 rw [List.getElem_drop, List.drop_drop, ← Nat.add_mul]
 exact this
theorem ORows.append (h : ORows Q z F s D l) (k : ORows Q z F s E m) : ORows Q z F s (D ++ E) (l ++ m) := by
 have e := h.len
 refine ⟨by rw [List.length_append, List.length_append, e, k.len, Nat.add_mul], fun i hi => ?_⟩
 by_cases hlt : i < D.length
 ·have hz : (i + 1) * z ≤ D.length * z := Nat.mul_le_mul_right z hlt
  rw [Nat.succ_mul] at hz
  rw [List.getElem_append_left hlt, List.drop_append_of_le_length (by omega), List.take_append_of_le_length (by rw [List.length_drop]; omega)]
  exact h.row i hlt
 ·have hi' : i - D.length < E.length := by rw [List.length_append] at hi; omega
  have hz : D.length * z ≤ i * z := Nat.mul_le_mul_right z (by omega)
  rw [List.getElem_append_right (by omega), List.drop_append, List.drop_eq_nil_of_le (by omega), List.nil_append, e, ← Nat.sub_mul]
  exact k.row _ hi'
end
end Go.Cl
namespace Go.Cl
open Go.Lib
theorem atE_le (D : List (List UInt8 × O)) (k : List UInt8) : atE D k ≤ D.length := List.findIdx_le_length
end Go.Cl
namespace Go.Cl
def O.has (o : O) : Bool := decide (o.kind = 7) || decide (o.kind = 8)
theorem others_len (k : List UInt8) (d : List (List UInt8 × O)) : (others k d).length ≤ d.length := List.length_filter_le _ _
theorem putE_len (D : List (List UInt8 × O)) (e : List UInt8 × O) : (putE D e).length ≤ D.length + 1 := by
 unfold putE
 have h1 := others_len e.1 (D.take (atE D e.1))
 have h2 := others_len e.1 (D.drop (atE D e.1))
 have h3 := atE_le D e.1
 rw [List.length_take] at h1
 rw [List.length_drop] at h2
 rw [List.length_append, List.length_append]
 split <;> simp <;> omega
theorem putAll_snoc (d l : List (List UInt8 × O)) (e : List UInt8 × O) : putAll d (l ++ [e]) = putE (putAll d l) e := by
 unfold putAll; rw [List.foldl_append]; rfl
theorem putAll_take {d l : List (List UInt8 × O)} {i : Nat} (h : i < l.length) : putAll d (l.take (i + 1)) = putE (putAll d (l.take i)) l[i] := by
 rw [List.take_add_one, List.getElem?_eq_getElem h]; exact putAll_snoc _ _ _
theorem putAll_len (d : List (List UInt8 × O)) : ∀ l : List (List UInt8 × O), (putAll d l).length ≤ d.length + l.length := by
 intro l
 induction l generalizing d with
 | nil => exact Nat.le_refl _
 | cons e l ih =>
  have h1 := ih (putE d e)
  have h2 := putE_len d e
  have h3 : putAll d (e :: l) = putAll (putE d e) l := rfl
  rw [h3, List.length_cons]; omega
end Go.Cl
namespace Go.Cl
def goW (e : List UInt8 × O) : List (List UInt8 × O) -> Bool -> List (List UInt8 × O)
 | [], put => if put then [] else [e]
 | y :: r, put => (if !put && !(lessB y.1 e.1) then [e] else []) ++ (if !(y.1 == e.1) then [y] else []) ++ goW e r (put || !(lessB y.1 e.1))
theorem goW_true (e : List UInt8 × O) : ∀ d, goW e d true = others e.1 d
 | [] => rfl
 | y :: r => by
  unfold goW
  rw [Bool.true_or, goW_true e r]
  unfold others
  rw [List.filter_cons]
  cases (!(y.1 == e.1)) <;> simp
theorem goW_false (e : List UInt8 × O) : ∀ d, goW e d false = others e.1 (d.take (atE d e.1)) ++ [e] ++ others e.1 (d.drop (atE d e.1))
 | [] => rfl
 | y :: r => by
  unfold goW
  have ih := goW_false e r
  unfold atE
  rw [List.findIdx_cons]
  cases h : lessB y.1 e.1 with
  | false =>
   simp only [Bool.not_false, Bool.and_self, Bool.or_true, if_true, cond_true, List.take_zero, List.drop_zero]
   rw [goW_true]
   unfold others
   rw [List.filter_cons]
   cases (!(y.1 == e.1)) <;> simp
  | true =>
   simp only [Bool.not_true, Bool.and_false, Bool.or_false, cond_false]
   rw [ih]
   unfold others atE
   rw [List.take_succ_cons, List.drop_succ_cons, List.filter_cons]
   cases (!(y.1 == e.1)) <;> simp
theorem goW_start (e : List UInt8 × O) (d : List (List UInt8 × O)) : goW e d (decide (e.2.kind = 0)) = putE d e := by
 unfold putE
 by_cases h : e.2.kind = 0
 ·rw [decide_eq_true h, goW_true, if_pos h]
  unfold others
  rw [List.append_nil, ← List.filter_append, List.take_append_drop]
 ·rw [decide_eq_false h, goW_false, if_neg h]
theorem goW_step {e : List UInt8 × O} {d : List (List UInt8 × O)} {i : Nat} (h : i < d.length) (put : Bool) : goW e (d.drop i) put = (if !put && !(lessB d[i].1 e.1) then [e] else []) ++ (if !(d[i].1 == e.1) then [d[i]] else []) ++ goW e (d.drop (i + 1)) (put || !(lessB d[i].1 e.1)) := by
 rw [List.drop_eq_getElem_cons h]; rfl
end Go.Cl