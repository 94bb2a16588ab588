/-
 Objects: what is the same, what may be, entries put, cut, kept.
-/
import Derived.Test.YtokfoagohblkoaaObj
import Derived.Test.YtokfoagohblkoaaLooseB
import Derived.Test.YtokfoagohblkoaaStr
import Derived.Lib.Bytealg
import Derived.Test.YtokfoagohblkoaaAgg
namespace Go.Cl
inductive xi : O -> O -> Prop
 | mk {k n n' : Int} {b b' : List UInt8} {l l' : List O} {d d' : List (List UInt8 × O)} (hn : (k = 1 ∨ k = 2 ∨ k = 3 ∨ k = 9) -> n = n') (hb : (k = 4 ∨ k = 5 ∨ k = 8) -> b = b')
   (hl : k = 6 -> l.length = l'.length) (hL : k = 6 -> ∀ i (h : i < l.length) (h' : i < l'.length), xi l[i] l'[i])
   (hd : (k = 7 ∨ k = 8) -> d.length = d'.length) (hK : (k = 7 ∨ k = 8) -> ∀ i (h : i < d.length) (h' : i < d'.length), d[i].1 = d'[i].1) (hD : (k = 7 ∨ k = 8) -> ∀ i (h : i < d.length) (h' : i < d'.length), xi d[i].2 d'[i].2) : xi (.mk k n b l d) (.mk k n' b' l' d')
theorem xi.inv {k k' n n' : Int} {b b' : List UInt8} {l l' : List O} {d d' : List (List UInt8 × O)} (h : xi (.mk k n b l d) (.mk k' n' b' l' d')) : k = k' ∧ ((k = 1 ∨ k = 2 ∨ k = 3 ∨ k = 9) -> n = n') ∧ ((k = 4 ∨ k = 5 ∨ k = 8) -> b = b') ∧ (k = 6 -> l.length = l'.length) ∧ (k = 6 -> ∀ i (h : i < l.length) (h' : i < l'.length), xi l[i] l'[i]) ∧
  ((k = 7 ∨ k = 8) -> d.length = d'.length) ∧ ((k = 7 ∨ k = 8) -> ∀ i (h : i < d.length) (h' : i < d'.length), d[i].1 = d'[i].1) ∧ ((k = 7 ∨ k = 8) -> ∀ i (h : i < d.length) (h' : i < d'.length), xi d[i].2 d'[i].2) := by
 cases h with
 | mk hn hb hl hL hd hK hD => exact ⟨rfl, hn, hb, hl, hL, hd, hK, hD⟩
theorem xi.refl : ∀ (N : Nat) (a : O), SizeOf.sizeOf a ≤ N -> xi a a := by
 intro N
 induction N with
 | zero => intro a h; cases a; simp at h
 | succ N ih =>
  intro a h
  cases a with
  | mk k n b l d =>
   exact .mk (fun _ => rfl) (fun _ => rfl) (fun _ => rfl) (fun _ i h1 h2 => ih _ (by have := O.items_lt (k := k) (n := n) (b := b) (l := l) (d := d) (List.getElem_mem h1); omega)) (fun _ => rfl) (fun _ i _ _ => rfl) (fun _ i h1 h2 => ih _ (by have := O.ents_lt (k := k) (n := n) (b := b) (l := l) (d := d) (List.getElem_mem h1); omega))
theorem xi.self (a : O) : xi a a := xi.refl _ a (Nat.le_refl _)
theorem xi.symm {a b : O} (h : xi a b) : xi b a := by
 induction h with
 | mk hn hb hl hL hd hK hD iL iD => exact .mk (fun h => (hn h).symm) (fun h => (hb h).symm) (fun h => (hl h).symm) (fun h i h1 h2 => iL h i h2 h1) (fun h => (hd h).symm) (fun h i h1 h2 => (hK h i h2 h1).symm) (fun h i h1 h2 => iD h i h2 h1)
def wy (p : Prop) (v : Value) : Prop := ∃ t : Bool, v = .bool t ∧ (t = true ↔ p)
theorem wy.no {p : Prop} (h : ¬ p) : wy p (.bool false) := ⟨false, rfl, ⟨fun h => by (cases h), fun k => absurd k h⟩⟩
theorem wy.yes {p : Prop} (h : p) : wy p (.bool true) := ⟨true, rfl, ⟨fun _ => h, fun _ => rfl⟩⟩
theorem wM {p : Nat -> Prop} {i : Nat} (h : ∀ j, j < i -> p j) (hi : p i) : ∀ j, j < i + 1 -> p j := by
 intro j hj
 rcases Nat.lt_succ_iff_lt_or_eq.mp hj with h1 | h1
 ·exact h j h1
 ·rw [h1]; exact hi
theorem zd.loadMid {P : Program} {e : TypeId} {n : Nat} (hag : yc P e = some true) (hsz : zB P e = some n) {s : ASt} {i : Nat} {cs : List Value} (h : zd s i cs) {off c : Nat} (hc : c = cs.length + 1) (ho : off + n ≤ cs.length) :
  zg P s e (.pointer (some ⟨i, off, some c⟩)) = some (.agg ((cs.drop off).take n).toArray) := by
 obtain ⟨low, z, h1, h2⟩ := h.blk
 subst hc
 unfold zg
 simp only [hag, hsz]
 rw [wt h1 h2 (Nat.le_refl _) (by omega)]
end Go.Cl
namespace Go.Cl
def ki (b : List UInt8) : Prop := b.length ≤ 127 ∧ ∀ i (h : i < b.length), b[i].toNat ≠ 0
def Ti (x y : List UInt8) : Prop := ¬ (Op.bytesLess y x || y == x) = true
inductive MayO : Int -> O -> Prop
 | mk {p k n : Int} {b : List UInt8} {l : List O} {d : List (List UInt8 × O)} (h1 : l ≠ [] -> k = 6) (h2 : d ≠ [] -> k = 7 ∨ k = 8) (h3 : b ≠ [] -> k = 4 ∨ k = 5 ∨ k = 8) (hk : 0 ≤ k ∧ k ≤ 9)
   (n1 : k = 1 -> n = 0 ∨ n = 1) (n2 : k = 2 -> -2147483647 ≤ n ∧ n ≤ 2147483647) (n3 : k = 3 -> -214748364799999 ≤ n ∧ n ≤ 214748364799999) (n9 : k = 9 -> 1 ≤ n ∧ n ≤ 8388607) (n0 : k ≠ 1 -> k ≠ 2 -> k ≠ 3 -> k ≠ 9 -> n = 0)
   (b4 : k = 4 -> b.length ≤ 32767) (b5 : k = 5 -> ki b) (p6 : k = 6 -> 1 ≤ p) (l6 : k = 6 -> ∀ i (h : i < l.length), l[i].kind ≠ 8) (m6 : k = 6 -> ∀ i (h : i < l.length), MayO (p - 1) l[i])
   (p7 : k = 7 ∨ k = 8 -> 1 ≤ p) (b7 : k = 7 ∨ k = 8 -> b.length ≤ 16777216) (e7 : k = 7 ∨ k = 8 -> ∀ i (h : i < d.length), ki d[i].1 ∧ d[i].2.kind ≠ 8 ∧ d[i].2.kind ≠ 0) (m7 : k = 7 ∨ k = 8 -> ∀ i (h : i < d.length), MayO (p - 1) d[i].2)
   (r7 : k = 7 ∨ k = 8 -> ∀ i (h : i + 1 < d.length), Ti d[i].1 d[i + 1].1) : MayO p (.mk k n b l d)
def JT (p : Int) (l : List O) : Prop := ∀ i (h : i < l.length), l[i].kind ≠ 8 ∧ MayO (p - 1) l[i]
def Za (p : Int) (d : List (List UInt8 × O)) : Prop := (∀ i (h : i < d.length), (ki d[i].1 ∧ d[i].2.kind ≠ 8 ∧ d[i].2.kind ≠ 0) ∧ MayO (p - 1) d[i].2) ∧ ∀ i (h : i + 1 < d.length), Ti d[i].1 d[i + 1].1
theorem wo {p k n : Int} {b : List UInt8} {l : List O} {d : List (List UInt8 × O)} : MayO p (.mk k n b l d) ↔ (l ≠ [] -> k = 6) ∧ (d ≠ [] -> k = 7 ∨ k = 8) ∧ (b ≠ [] -> k = 4 ∨ k = 5 ∨ k = 8) ∧ (0 ≤ k ∧ k ≤ 9) ∧
  (k = 1 -> n = 0 ∨ n = 1) ∧ (k = 2 -> -2147483647 ≤ n ∧ n ≤ 2147483647) ∧ (k = 3 -> -214748364799999 ≤ n ∧ n ≤ 214748364799999) ∧ (k = 9 -> 1 ≤ n ∧ n ≤ 8388607) ∧ (k ≠ 1 -> k ≠ 2 -> k ≠ 3 -> k ≠ 9 -> n = 0) ∧
  (k = 4 -> b.length ≤ 32767) ∧ (k = 5 -> ki b) ∧ (k = 6 -> 1 ≤ p ∧ JT p l) ∧ (k = 7 ∨ k = 8 -> (1 ≤ p ∧ b.length ≤ 16777216) ∧ Za p d) := by
 constructor
 ·intro h
  cases h with
  | mk h1 h2 h3 hk n1 n2 n3 n9 n0 b4 b5 p6 l6 m6 p7 b7 e7 m7 r7 =>
   exact ⟨h1, h2, h3, hk, n1, n2, n3, n9, n0, b4, b5, fun h => ⟨p6 h, fun i hi => ⟨l6 h i hi, m6 h i hi⟩⟩, fun h => ⟨⟨p7 h, b7 h⟩, fun i hi => ⟨e7 h i hi, m7 h i hi⟩, r7 h⟩⟩
 ·rintro ⟨h1, h2, h3, hk, n1, n2, n3, n9, n0, b4, b5, a6, a7⟩
  exact .mk h1 h2 h3 hk n1 n2 n3 n9 n0 b4 b5 (fun h => (a6 h).1) (fun h i hi => ((a6 h).2 i hi).1) (fun h i hi => ((a6 h).2 i hi).2) (fun h => (a7 h).1.1) (fun h => (a7 h).1.2) (fun h i hi => ((a7 h).2.1 i hi).1) (fun h i hi => ((a7 h).2.1 i hi).2) (fun h => (a7 h).2.2)
section
variable {p k n : Int} {b : List UInt8} {l : List O} {d : List (List UInt8 × O)} (g1 : l ≠ [] -> k = 6) (g2 : d ≠ [] -> k = 7 ∨ k = 8) (g3 : b ≠ [] -> k = 4 ∨ k = 5 ∨ k = 8)
include g1 g2 g3
theorem Tj (hk : k = 1) : MayO p (.mk k n b l d) ↔ (n = 0 ∨ n = 1) := by
 rw [wo]
 exact ⟨fun h => h.2.2.2.2.1 hk, fun h => ⟨g1, g2, g3, by omega, fun _ => h, fun e => by omega, fun e => by omega, fun e => by omega, fun e => by omega, fun e => by omega, fun e => by omega, fun e => by omega, fun e => by omega⟩⟩
theorem Tk (hk : k = 2) : MayO p (.mk k n b l d) ↔ (-2147483647 ≤ n ∧ n ≤ 2147483647) := by
 rw [wo]
 exact ⟨fun h => h.2.2.2.2.2.1 hk, fun h => ⟨g1, g2, g3, by omega, fun e => by omega, fun _ => h, fun e => by omega, fun e => by omega, fun e => by omega, fun e => by omega, fun e => by omega, fun e => by omega, fun e => by omega⟩⟩
theorem may_3 (hk : k = 3) : MayO p (.mk k n b l d) ↔ (-214748364799999 ≤ n ∧ n ≤ 214748364799999) := by
 rw [wo]
 exact ⟨fun h => h.2.2.2.2.2.2.1 hk, fun h => ⟨g1, g2, g3, by omega, fun e => by omega, fun e => by omega, fun _ => h, fun e => by omega, fun e => by omega, fun e => by omega, fun e => by omega, fun e => by omega, fun e => by omega⟩⟩
theorem Tl (hk : k = 9) : MayO p (.mk k n b l d) ↔ (1 ≤ n ∧ n ≤ 8388607) := by
 rw [wo]
 exact ⟨fun h => h.2.2.2.2.2.2.2.1 hk, fun h => ⟨g1, g2, g3, by omega, fun e => by omega, fun e => by omega, fun e => by omega, fun _ => h, fun e => by omega, fun e => by omega, fun e => by omega, fun e => by omega, fun e => by omega⟩⟩
theorem may_0 (hk : k = 0) (hn : n = 0) : MayO p (.mk k n b l d) := by
 rw [wo]
 exact ⟨g1, g2, g3, by omega, fun e => by omega, fun e => by omega, fun e => by omega, fun e => by omega, fun _ _ _ _ => hn, fun e => by omega, fun e => by omega, fun e => by omega, fun e => by omega⟩
theorem may_4 (hk : k = 4) (hn : n = 0) : MayO p (.mk k n b l d) ↔ b.length ≤ 32767 := by
 rw [wo]
 exact ⟨fun h => h.2.2.2.2.2.2.2.2.2.1 hk, fun h => ⟨g1, g2, g3, by omega, fun e => by omega, fun e => by omega, fun e => by omega, fun e => by omega, fun _ _ _ _ => hn, fun _ => h, fun e => by omega, fun e => by omega, fun e => by omega⟩⟩
theorem may_5 (hk : k = 5) (hn : n = 0) : MayO p (.mk k n b l d) ↔ ki b := by
 rw [wo]
 exact ⟨fun h => h.2.2.2.2.2.2.2.2.2.2.1 hk, fun h => ⟨g1, g2, g3, by omega, fun e => by omega, fun e => by omega, fun e => by omega, fun e => by omega, fun _ _ _ _ => hn, fun e => by omega, fun _ => h, fun e => by omega, fun e => by omega⟩⟩
theorem Tm (hk : k = 6) (hn : n = 0) : MayO p (.mk k n b l d) ↔ 1 ≤ p ∧ JT p l := by
 rw [wo]
 exact ⟨fun h => h.2.2.2.2.2.2.2.2.2.2.2.1 hk, fun h => ⟨g1, g2, g3, by omega, fun e => by omega, fun e => by omega, fun e => by omega, fun e => by omega, fun _ _ _ _ => hn, fun e => by omega, fun e => by omega, fun _ => h, fun e => by omega⟩⟩
theorem may_7 (hk : k = 7 ∨ k = 8) (hn : n = 0) : MayO p (.mk k n b l d) ↔ (1 ≤ p ∧ b.length ≤ 16777216) ∧ Za p d := by
 rw [wo]
 exact ⟨fun h => h.2.2.2.2.2.2.2.2.2.2.2.2 hk, fun h => ⟨g1, g2, g3, by omega, fun e => by omega, fun e => by omega, fun e => by omega, fun e => by omega, fun _ _ _ _ => hn, fun e => by omega, fun e => by omega, fun e => by omega, fun _ => h⟩⟩
omit g1 g2 g3 in
theorem may_n (h : MayO p (.mk k n b l d)) (h1 : k ≠ 1) (h2 : k ≠ 2) (h3 : k ≠ 3) (h9 : k ≠ 9) : n = 0 := (wo.1 h).2.2.2.2.2.2.2.2.1 h1 h2 h3 h9
omit g1 g2 g3 in
theorem may_k (h : MayO p (.mk k n b l d)) : 0 ≤ k ∧ k ≤ 9 := (wo.1 h).2.2.2.1
end
section
variable {P : Program} {t : TypeId}
theorem Zb (a b : List UInt8) : binA P .leq t (.string ⟨a.toArray⟩) (.string ⟨b.toArray⟩) = some (.bool (Op.bytesLess a b || a == b)) := by
 simp only [binA, Xc]
theorem Sm {lib : zm} {all r : List Oper} {o : Oper} {f : AFr} {s : ASt} {Q : AFr -> ASt -> Prop} {b : Bool} (J : AFr -> ASt -> Prop) (h1 : ∀ Q' : AFr -> ASt -> Prop, (∀ f' s', J f' s' -> Q' f' s') -> jb P lib all o r f s Q' b) (h2 : ∀ f' s', J f' s' -> Q f' s') : jb P lib all o r f s Q b := h1 Q h2
end
end Go.Cl
namespace Go.Cl
open Go.Lib
abbrev xE (a b : List UInt8) : Bool := Op.bytesLess a b
theorem kF : ∀ (a b : List UInt8), (xE a b || a == b) = !(xE b a)
 | [], [] => rfl
 | [], _ :: _ => rfl
 | _ :: _, [] => rfl
 | x :: a, y :: b => by
  have ih := kF a b
  simp only [xE] at ih ⊢
  simp only [Op.bytesLess, List.cons_beq_cons]
  by_cases h : x = y
  ·subst h
   have hx : ¬ x < x := UInt8.lt_irrefl x
   simp only [decide_eq_false hx, Bool.false_or, beq_self_eq_true, Bool.true_and]
   exact ih
  ·have h1 : (x == y) = false := by simpa using h
   have h2 : (y == x) = false := by simpa using Ne.symm h
   simp only [h1, h2, Bool.false_and, Bool.or_false]
   by_cases hl : x < y
   ·have : ¬ y < x := UInt8.not_lt.2 (UInt8.le_of_lt hl)
    simp [hl, this]
   ·have : y < x := UInt8.lt_of_le_of_ne (UInt8.not_lt.1 hl) (Ne.symm h)
    simp [hl, this]
theorem qf : ∀ (a b : List UInt8), 0 ≤ compareBytes a b ↔ xE a b = false
 | [], [] => by simp [compareBytes, xE, Op.bytesLess]
 | [], _ :: _ => by simp [compareBytes, xE, Op.bytesLess]
 | _ :: _, [] => by simp [compareBytes, xE, Op.bytesLess]
 | x :: a, y :: b => by
  have ih := qf a b
  simp only [xE] at ih ⊢
  unfold compareBytes
  simp only [Op.bytesLess]
  by_cases h1 : x < y
  ·simp [h1]
  ·rw [if_neg h1]
   by_cases h2 : y < x
   ·have hne : (x == y) = false := by
     have : x ≠ y := fun e => by subst e; exact UInt8.lt_irrefl x h2
     simpa using this
    rw [if_pos h2]; simp [h1, hne]
   ·rw [if_neg h2]
    have : x = y := UInt8.le_antisymm (UInt8.not_lt.1 h2) (UInt8.not_lt.1 h1)
    subst this
    simp only [decide_eq_false h1, Bool.false_or, beq_self_eq_true, Bool.true_and]
    exact ih
theorem qg : ∀ (a b : List UInt8), compareBytes a b = 0 ↔ a = b
 | [], [] => by simp [compareBytes]
 | [], _ :: _ => by simp [compareBytes]
 | _ :: _, [] => by simp [compareBytes]
 | x :: a, y :: b => by
  have ih := qg a b
  unfold compareBytes
  by_cases h1 : x < y
  ·have : x ≠ y := fun e => by subst e; exact UInt8.lt_irrefl x h1
   simp [h1, this]
  ·rw [if_neg h1]
   by_cases h2 : y < x
   ·have : x ≠ y := fun e => by subst e; exact UInt8.lt_irrefl x h2
    simp [h2, this]
   ·rw [if_neg h2, ih]
    have : x = y := UInt8.le_antisymm (UInt8.not_lt.1 h2) (UInt8.not_lt.1 h1)
    subst this
    simp
def atE (d : List (List UInt8 × O)) (k : List UInt8) : Nat := d.findIdx (fun y => !(xE y.1 k))
def wi (k : List UInt8) (d : List (List UInt8 × O)) : List (List UInt8 × O) := d.filter (fun y => !(y.1 == k))
def putE (d : List (List UInt8 × O)) (e : List UInt8 × O) : List (List UInt8 × O) :=
 wi e.1 (d.take (atE d e.1)) ++ (if e.2.kind = 0 then [] else [e]) ++ wi e.1 (d.drop (atE d e.1))
def yd (d l : List (List UInt8 × O)) : List (List UInt8 × O) := l.foldl putE d
end Go.Cl
namespace Go.Cl
def yy (p : Nat -> Bool) : Nat -> Nat
 | 0 => 0
 | j + 1 => yy p j + (if p j then 0 else 1)
def xS (l : List Value) (z : Nat) (p : Nat -> Bool) : Nat -> List Value
 | 0 => []
 | j + 1 => xS l z p j ++ (if p j then [] else (l.drop (j * z)).take z)
theorem jH (p : Nat -> Bool) : ∀ j, yy p j ≤ j
 | 0 => Nat.le_refl _
 | j + 1 => by have := jH p j; unfold yy; split <;> omega
theorem kj {l : List Value} {z n : Nat} (p : Nat -> Bool) (hl : l.length = n * z) : ∀ j, j ≤ n -> (xS l z p j).length = yy p j * z
 | 0, _ => by simp [xS, yy]
 | j + 1, h => by
  have ih := kj p hl j (by omega)
  have hz : (j + 1) * z ≤ n * z := Nat.mul_le_mul_right z h
  rw [Nat.succ_mul] at hz
  unfold xS yy
  split
  ·simp [ih]
  ·rw [List.length_append, ih, List.length_take, List.length_drop, Nat.add_mul, Nat.one_mul]; omega
theorem Wp {l : List Value} {z : Nat} {p : Nat -> Bool} : ∀ k, (∀ i, i < k -> p i = false) -> yy p k = k ∧ xS l z p k = l.take (k * z)
 | 0, _ => by simp [xS, yy]
 | k + 1, h => by
  obtain ⟨h1, h2⟩ := Wp (l := l) (z := z) k (fun i hi => h i (by omega))
  have h3 := h k (by omega)
  unfold xS yy
  rw [h1, h2, h3]
  refine ⟨rfl, ?_⟩
  rw [Nat.succ_mul, List.take_add]; rfl
theorem Sn {l L : List Value} {z n j : Nat} {p : Nat -> Bool} (hL : L.length = n * z) (hl : l.length = n * z) (hj : j < n) (h1 : L.take (yy p j * z) = xS l z p j) (h2 : L.drop (j * z) = l.drop (j * z)) (hp : p j = false) :
  (over L (yy p j * z) ((l.drop (j * z)).take z)).take (yy p (j + 1) * z) = xS l z p (j + 1) ∧ (over L (yy p j * z) ((l.drop (j * z)).take z)).drop ((j + 1) * z) = l.drop ((j + 1) * z) := by
 have hz : (j + 1) * z ≤ n * z := Nat.mul_le_mul_right z hj
 have hk : yy p j * z ≤ j * z := Nat.mul_le_mul_right z (jH p j)
 have hr : ((l.drop (j * z)).take z).length = z := by rw [Nat.succ_mul] at hz; rw [List.length_take, List.length_drop]; omega
 rw [Nat.succ_mul] at hz
 have hkc := kj p hl j (by omega)
 unfold over
 rw [h1, hr]
 have e1 : yy p (j + 1) * z = yy p j * z + z := by simp [yy, hp, Nat.succ_mul]
 constructor
 ·rw [e1, List.take_append_of_le_length (by rw [List.length_append, hkc, hr]; omega), List.take_of_length_le (by rw [List.length_append, hkc, hr]; omega)]
  simp [xS, hp]
 ·have e2 : L.drop ((j + 1) * z) = l.drop ((j + 1) * z) := by
   have := congrArg (List.drop z) h2
   rwa [List.drop_drop, List.drop_drop, ← Nat.succ_mul] at this
  have hlen : (xS l z p j ++ (l.drop (j * z)).take z).length = yy p j * z + z := by rw [List.length_append, hkc, hr]
  rw [List.drop_append, List.drop_eq_nil_of_le (by rw [hlen, Nat.succ_mul]; omega), List.nil_append, hlen, List.drop_drop, ← e2]
  congr 1
  rw [Nat.succ_mul]; omega
theorem Jj {l L : List Value} {z j : Nat} {p : Nat -> Bool} (h1 : L.take (yy p j * z) = xS l z p j) (h2 : L.drop (j * z) = l.drop (j * z)) (hp : p j = true) : L.take (yy p (j + 1) * z) = xS l z p (j + 1) ∧ L.drop ((j + 1) * z) = l.drop ((j + 1) * z) := by
 constructor
 ·simp [yy, xS, hp, h1]
 ·have := congrArg (List.drop z) h2
  rwa [List.drop_drop, List.drop_drop, ← Nat.succ_mul] at this
end Go.Cl
namespace Go.Cl
section
variable {α : Type} {Q : (Nat -> Prop) -> ASt -> List Value -> α -> Prop} {z : Nat} {F : Nat -> Prop} {s : ASt} {D E : List α} {l m : List Value}
def km (D : List α) (p : Nat -> Bool) : Nat -> List α
 | 0 => []
 | j + 1 => km D p j ++ (if p j then [] else D[j]?.toList)
theorem zt.rowLen (h : zt Q z F s D l) {i : Nat} (hi : i < D.length) : ((l.drop (i * z)).take z).length = z := by
 have e := h.len
 have : (i + 1) * z ≤ D.length * z := Nat.mul_le_mul_right z hi
 rw [Nat.succ_mul] at this
 rw [List.length_take, List.length_drop]; omega
theorem zt.kept (h : zt Q z F s D l) (p : Nat -> Bool) : ∀ j, j ≤ D.length -> zt Q z F s (km D p j) (xS l z p j)
 | 0, _ => zt.nil
 | j + 1, hj => by
  have ih := h.kept p j (by omega)
  unfold km xS
  split
  ·simpa using ih
  ·rw [List.getElem?_eq_getElem (by omega)]
   exact ih.snoc (h.rowLen (by omega)) (h.row j (by omega))
theorem zt.take (h : zt Q z F s D l) (k : Nat) (hk : k ≤ D.length) : zt Q z F s (D.take k) (l.take (k * z)) := by
 have hz : k * z ≤ D.length * z := Nat.mul_le_mul_right z hk
 have e := h.len
 refine ⟨by rw [List.length_take, List.length_take, Nat.min_eq_left hk]; omega, fun i hi => ?_⟩
 have hi' : i < k := by rw [List.length_take] at hi; omega
 have hz2 : (i + 1) * z ≤ k * z := Nat.mul_le_mul_right z hi'
 rw [Nat.succ_mul] at hz2
 have := h.row i (by omega)
 rw [List.getElem_take, List.drop_take, List.take_take, Nat.min_eq_left (by omega)]
 exact this
theorem zt.drop (h : zt Q z F s D l) (k : Nat) (hk : k ≤ D.length) : zt Q z F s (D.drop k) (l.drop (k * z)) := by
 have e := h.len
 refine ⟨by rw [List.length_drop, List.length_drop, e, Nat.sub_mul], fun i hi => ?_⟩
 have hi' : k + i < D.length := by rw [List.length_drop] at hi; omega
 have := h.row (k + i) hi'
 rw [List.getElem_drop, List.drop_drop, ← Nat.add_mul]
 exact this
theorem zt.append (h : zt Q z F s D l) (k : zt Q z F s E m) : zt Q z F s (D ++ E) (l ++ m) := by
 have e := h.len
 refine ⟨by rw [List.length_append, List.length_append, e, k.len, Nat.add_mul], fun i hi => ?_⟩
 by_cases hlt : i < D.length
 ·have hz : (i + 1) * z ≤ D.length * z := Nat.mul_le_mul_right z hlt
  rw [Nat.succ_mul] at hz
  rw [List.getElem_append_left hlt, List.drop_append_of_le_length (by omega), List.take_append_of_le_length (by rw [List.length_drop]; omega)]
  exact h.row i hlt
 ·have hi' : i - D.length < E.length := by rw [List.length_append] at hi; omega
  have hz : D.length * z ≤ i * z := Nat.mul_le_mul_right z (by omega)
  rw [List.getElem_append_right (by omega), List.drop_append, List.drop_eq_nil_of_le (by omega), List.nil_append, e, ← Nat.sub_mul]
  exact k.row _ hi'
theorem YS {p : Nat -> Bool} {q : α -> Bool} : ∀ j, j ≤ D.length -> (∀ i (h : i < D.length), p i = q D[i]) -> km D p j = (D.take j).filter (fun y => !(q y))
 | 0, _, _ => by simp [km]
 | j + 1, hj, h => by
  have hlt : j < D.length := by omega
  have ih := YS (p := p) (q := q) j (by omega) h
  unfold km
  rw [ih, h j hlt, List.take_add_one, List.getElem?_eq_getElem hlt, List.filter_append]
  cases hq : q D[j] <;> simp [hq]
end
end Go.Cl
namespace Go.Cl
open Go.Lib
def onE (D : List (List UInt8 × O)) (q : List UInt8 × O -> Bool) (i : Nat) : Bool := match D[i]? with
 | some y => q y
 | none => false
theorem Zc {D : List (List UInt8 × O)} {q : List UInt8 × O -> Bool} {i : Nat} (h : i < D.length) : onE D q i = q D[i] := by
 unfold onE; rw [List.getElem?_eq_getElem h]
theorem So (D : List (List UInt8 × O)) (k : List UInt8) : atE D k ≤ D.length := List.findIdx_le_length
theorem SZ {D : List (List UInt8 × O)} {k : List UInt8} (h : ∀ i, i < D.length -> onE D (fun y => !(xE y.1 k)) i = false) : atE D k = D.length := by
 unfold atE
 rw [List.findIdx_eq_length]
 intro y hy
 obtain ⟨i, hi, rfl⟩ := List.mem_iff_getElem.1 hy
 have := h i hi
 rwa [Zc hi] at this
theorem aaa {D : List (List UInt8 × O)} {k : List UInt8} {r : Nat} (hr : r < D.length) (h1 : onE D (fun y => !(xE y.1 k)) r = true) (h : ∀ i, i < r -> onE D (fun y => !(xE y.1 k)) i = false) : atE D k = r := by
 unfold atE
 rw [List.findIdx_eq hr]
 refine ⟨by rwa [Zc hr] at h1, fun j hj => ?_⟩
 have := h j hj
 rwa [Zc (by omega)] at this
theorem Kx {D : List (List UInt8 × O)} {k : List UInt8} {i : Nat} (hi : i < atE D k) (h : i < D.length) : xE D[i].1 k = true := by
 have := List.not_of_lt_findIdx hi
 simpa using this
theorem YT (a : List UInt8) : xE a a = false := by
 have := kF a a
 simp at this; exact this
theorem Ky (D : List (List UInt8 × O)) (k : List UInt8) : wi k (D.take (atE D k)) = D.take (atE D k) := by
 unfold wi
 rw [List.filter_eq_self]
 intro y hy
 obtain ⟨i, hi, rfl⟩ := List.mem_iff_getElem.1 hy
 rw [List.length_take] at hi
 rw [List.getElem_take]
 have h1 := Kx (D := D) (k := k) (i := i) (by omega) (by omega)
 by_cases e : D[i].1 = k
 ·rw [e, YT] at h1; cases h1
 ·simpa using e
end Go.Cl
namespace Go.Cl
def putK (D : List (List UInt8 × O)) (e : List UInt8 × O) (keep : Bool) : List (List UInt8 × O) := wi e.1 (D.take (atE D e.1)) ++ (if keep then [e] else []) ++ wi e.1 (D.drop (atE D e.1))
theorem aaT (D : List (List UInt8 × O)) (e : List UInt8 × O) : putE D e = putK D e (decide (e.2.kind ≠ 0)) := by
 unfold putE putK
 by_cases h : e.2.kind = 0 <;> simp [h]
def O.has (o : O) : Bool := decide (o.kind = 7) || decide (o.kind = 8)
def O.withD : O -> List (List UInt8 × O) -> O
 | .mk k n b l _, d => .mk k n b l d
def setO (o : O) (L : List (List UInt8 × O)) : O := if o.has then o.withD (yd o.ents L) else o
theorem VM {k : List UInt8} {d : List (List UInt8 × O)} {y : List UInt8 × O} (h : y ∈ wi k d) : y ∈ d := (List.mem_filter.1 h).1
theorem aab {D : List (List UInt8 × O)} {e y : List UInt8 × O} (h : y ∈ putE D e) : y ∈ D ∨ y = e := by
 unfold putE at h
 rw [List.mem_append, List.mem_append] at h
 rcases h with (h | h) | h
 ·exact .inl (List.mem_of_mem_take (VM h))
 ·split at h
  ·cases h
  ·exact .inr (by simpa using h)
 ·exact .inl (List.mem_of_mem_drop (VM h))
theorem VN (k : List UInt8) (d : List (List UInt8 × O)) : (wi k d).length ≤ d.length := List.length_filter_le _ _
theorem aac (D : List (List UInt8 × O)) (e : List UInt8 × O) : (putE D e).length ≤ D.length + 1 := by
 unfold putE
 have h1 := VN e.1 (D.take (atE D e.1))
 have h2 := VN e.1 (D.drop (atE D e.1))
 have h3 := So D e.1
 rw [List.length_take] at h1
 rw [List.length_drop] at h2
 rw [List.length_append, List.length_append]
 split <;> simp <;> omega
theorem Uu (d l : List (List UInt8 × O)) (e : List UInt8 × O) : yd d (l ++ [e]) = putE (yd d l) e := by
 unfold yd; rw [List.foldl_append]; rfl
theorem kG {d l : List (List UInt8 × O)} {i : Nat} (h : i < l.length) : yd d (l.take (i + 1)) = putE (yd d (l.take i)) l[i] := by
 rw [List.take_add_one, List.getElem?_eq_getElem h]; exact Uu _ _ _
theorem je (d : List (List UInt8 × O)) : ∀ l : List (List UInt8 × O), (yd d l).length ≤ d.length + l.length := by
 intro l
 induction l generalizing d with
 | nil => exact Nat.le_refl _
 | cons e l ih =>
  have h1 := ih (putE d e)
  have h2 := aac d e
  have h3 : yd d (e :: l) = yd (putE d e) l := rfl
  rw [h3, List.length_cons]; omega
theorem Tn {y : List UInt8 × O} : ∀ (l d : List (List UInt8 × O)), y ∈ yd d l -> y ∈ d ∨ y ∈ l := by
 intro l
 induction l with
 | nil => intro d h; exact .inl h
 | cons e l ih =>
  intro d h
  rcases ih (putE d e) h with h | h
  ·rcases aab h with h | h
   ·exact .inl h
   ·rw [h]; exact .inr (List.mem_cons_self ..)
  ·exact .inr (List.mem_cons_of_mem _ h)
end Go.Cl
namespace Go.Cl
def goW (e : List UInt8 × O) : List (List UInt8 × O) -> Bool -> List (List UInt8 × O)
 | [], put => if put then [] else [e]
 | y :: r, put => (if !put && !(xE y.1 e.1) then [e] else []) ++ (if !(y.1 == e.1) then [y] else []) ++ goW e r (put || !(xE y.1 e.1))
theorem Wq (e : List UInt8 × O) : ∀ d, goW e d true = wi e.1 d
 | [] => rfl
 | y :: r => by
  unfold goW
  rw [Bool.true_or, Wq e r]
  unfold wi
  rw [List.filter_cons]
  cases (!(y.1 == e.1)) <;> simp
theorem Jk (e : List UInt8 × O) : ∀ d, goW e d false = wi e.1 (d.take (atE d e.1)) ++ [e] ++ wi e.1 (d.drop (atE d e.1))
 | [] => rfl
 | y :: r => by
  unfold goW
  have ih := Jk e r
  unfold atE
  rw [List.findIdx_cons]
  cases h : xE y.1 e.1 with
  | false =>
   simp only [Bool.not_false, Bool.and_self, Bool.or_true, if_true, cond_true, List.take_zero, List.drop_zero]
   rw [Wq]
   unfold wi
   rw [List.filter_cons]
   cases (!(y.1 == e.1)) <;> simp
  | true =>
   simp only [Bool.not_true, Bool.and_false, Bool.or_false, cond_false]
   rw [ih]
   unfold wi atE
   rw [List.take_succ_cons, List.drop_succ_cons, List.filter_cons]
   cases (!(y.1 == e.1)) <;> simp
theorem Sp (e : List UInt8 × O) (d : List (List UInt8 × O)) : goW e d (decide (e.2.kind = 0)) = putE d e := by
 unfold putE
 by_cases h : e.2.kind = 0
 ·rw [decide_eq_true h, Wq, if_pos h]
  unfold wi
  rw [List.append_nil, ← List.filter_append, List.take_append_drop]
 ·rw [decide_eq_false h, Jk, if_neg h]
theorem aad {e : List UInt8 × O} {d : List (List UInt8 × O)} {i : Nat} (h : i < d.length) (put : Bool) : goW e (d.drop i) put = (if !put && !(xE d[i].1 e.1) then [e] else []) ++ (if !(d[i].1 == e.1) then [d[i]] else []) ++ goW e (d.drop (i + 1)) (put || !(xE d[i].1 e.1)) := by
 rw [List.drop_eq_getElem_cons h]; rfl
end Go.Cl
namespace Go.Cl
def partsO : O -> List O
 | .mk k _ _ l d => if k = 6 then l else if k = 7 ∨ k = 8 then d.map (·.2) else []
def refsN : Nat -> O -> List Int
 | 0, _ => []
 | m + 1, o => if o.kind = 9 then [o.num] else (partsO o).flatMap (refsN m)
noncomputable def To (o : O) : List Int := refsN (SizeOf.sizeOf o) o
theorem O.size_pos (o : O) : 0 < SizeOf.sizeOf o := by cases o; simp only [O.mk.sizeOf_spec]; omega
def intsV (l : List Int) : List Value := l.map (.int .i64)
end Go.Cl
