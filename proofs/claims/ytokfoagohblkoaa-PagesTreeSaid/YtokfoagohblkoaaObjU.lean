/-
  Objects: what is the same, what may be, entries put, cut, kept.
-/
import Derived.Test.YtokfoagohblkoaaObj
import Derived.Test.YtokfoagohblkoaaLooseB
import Derived.Test.YtokfoagohblkoaaStr
import Derived.Lib.Bytealg
import Derived.Test.YtokfoagohblkoaaAgg
namespace Go.Cl
inductive SameO : O → O → Prop
  | mk {k n n' : Int} {b b' : List UInt8} {l l' : List O} {d d' : List (List UInt8 × O)} (hn : (k = 1 ∨ k = 2 ∨ k = 3 ∨ k = 9) → n = n') (hb : (k = 4 ∨ k = 5 ∨ k = 8) → b = b')
      (hl : k = 6 → l.length = l'.length) (hL : k = 6 → ∀ i (h : i < l.length) (h' : i < l'.length), SameO l[i] l'[i])
      (hd : (k = 7 ∨ k = 8) → d.length = d'.length) (hK : (k = 7 ∨ k = 8) → ∀ i (h : i < d.length) (h' : i < d'.length), d[i].1 = d'[i].1) (hD : (k = 7 ∨ k = 8) → ∀ i (h : i < d.length) (h' : i < d'.length), SameO d[i].2 d'[i].2) : SameO (.mk k n b l d) (.mk k n' b' l' d')
theorem SameO.inv {k k' n n' : Int} {b b' : List UInt8} {l l' : List O} {d d' : List (List UInt8 × O)} (h : SameO (.mk k n b l d) (.mk k' n' b' l' d')) : k = k' ∧ ((k = 1 ∨ k = 2 ∨ k = 3 ∨ k = 9) → n = n') ∧ ((k = 4 ∨ k = 5 ∨ k = 8) → b = b') ∧ (k = 6 → l.length = l'.length) ∧ (k = 6 → ∀ i (h : i < l.length) (h' : i < l'.length), SameO l[i] l'[i]) ∧
    ((k = 7 ∨ k = 8) → d.length = d'.length) ∧ ((k = 7 ∨ k = 8) → ∀ i (h : i < d.length) (h' : i < d'.length), d[i].1 = d'[i].1) ∧ ((k = 7 ∨ k = 8) → ∀ i (h : i < d.length) (h' : i < d'.length), SameO d[i].2 d'[i].2) := by
  cases h with
  | mk hn hb hl hL hd hK hD => exact ⟨rfl, hn, hb, hl, hL, hd, hK, hD⟩
theorem SameO.refl : ∀ (N : Nat) (a : O), SizeOf.sizeOf a ≤ N → SameO a a := by
  intro N
  induction N with
  | zero => intro a h; cases a; simp at h
  | succ N ih =>
    intro a h
    cases a with
    | mk k n b l d =>
      exact .mk (fun _ => rfl) (fun _ => rfl) (fun _ => rfl) (fun _ i h1 h2 => ih _ (by have := O.items_lt (k := k) (n := n) (b := b) (l := l) (d := d) (List.getElem_mem h1); omega)) (fun _ => rfl) (fun _ i _ _ => rfl) (fun _ i h1 h2 => ih _ (by have := O.ents_lt (k := k) (n := n) (b := b) (l := l) (d := d) (List.getElem_mem h1); omega))
theorem SameO.self (a : O) : SameO a a := SameO.refl _ a (Nat.le_refl _)
theorem SameO.symm {a b : O} (h : SameO a b) : SameO b a := by
  induction h with
  | mk hn hb hl hL hd hK hD iL iD => exact .mk (fun h => (hn h).symm) (fun h => (hb h).symm) (fun h => (hl h).symm) (fun h i h1 h2 => iL h i h2 h1) (fun h => (hd h).symm) (fun h i h1 h2 => (hK h i h2 h1).symm) (fun h i h1 h2 => iD h i h2 h1)
def Answers (p : Prop) (v : Value) : Prop := ∃ t : Bool, v = .bool t ∧ (t = true ↔ p)
theorem Answers.no {p : Prop} (h : ¬ p) : Answers p (.bool false) := ⟨false, rfl, ⟨fun h => by (cases h), fun k => absurd k h⟩⟩
theorem upto_next {p : Nat → Prop} {i : Nat} (h : ∀ j, j < i → p j) (hi : p i) : ∀ j, j < i + 1 → p j := by
  intro j hj
  rcases Nat.lt_succ_iff_lt_or_eq.mp hj with h1 | h1
  · exact h j h1
  · rw [h1]; exact hi
theorem Thing.loadMid {P : Program} {e : TypeId} {n : Nat} (hag : isAggB P e = some true) (hsz : sizeB P e = some n) {s : ASt} {i : Nat} {cs : List Value} (h : Thing s i cs) {off c : Nat} (hc : c = cs.length + 1) (ho : off + n ≤ cs.length) :
    loadA P s e (.pointer (some ⟨i, off, some c⟩)) = some (.agg ((cs.drop off).take n).toArray) := by
  obtain ⟨low, z, h1, h2⟩ := h.blk
  subst hc
  unfold loadA
  simp only [hag, hsz]
  rw [cellsAt_eq h1 h2 (Nat.le_refl _) (by omega)]
end Go.Cl
namespace Go.Cl
def NameB (b : List UInt8) : Prop := b.length ≤ 127 ∧ ∀ i (h : i < b.length), b[i].toNat ≠ 0
def Rises (x y : List UInt8) : Prop := ¬ (Op.bytesLess y x || y == x) = true
inductive MayO : Int → O → Prop
  | mk {p k n : Int} {b : List UInt8} {l : List O} {d : List (List UInt8 × O)} (h1 : l ≠ [] → k = 6) (h2 : d ≠ [] → k = 7 ∨ k = 8) (h3 : b ≠ [] → k = 4 ∨ k = 5 ∨ k = 8) (hk : 0 ≤ k ∧ k ≤ 9)
      (n1 : k = 1 → n = 0 ∨ n = 1) (n2 : k = 2 → -2147483647 ≤ n ∧ n ≤ 2147483647) (n3 : k = 3 → -214748364799999 ≤ n ∧ n ≤ 214748364799999) (n9 : k = 9 → 1 ≤ n ∧ n ≤ 8388607) (n0 : k ≠ 1 → k ≠ 2 → k ≠ 3 → k ≠ 9 → n = 0)
      (b4 : k = 4 → b.length ≤ 32767) (b5 : k = 5 → NameB b) (p6 : k = 6 → 1 ≤ p) (l6 : k = 6 → ∀ i (h : i < l.length), l[i].kind ≠ 8) (m6 : k = 6 → ∀ i (h : i < l.length), MayO (p - 1) l[i])
      (p7 : k = 7 ∨ k = 8 → 1 ≤ p) (b7 : k = 7 ∨ k = 8 → b.length ≤ 16777216) (e7 : k = 7 ∨ k = 8 → ∀ i (h : i < d.length), NameB d[i].1 ∧ d[i].2.kind ≠ 8 ∧ d[i].2.kind ≠ 0) (m7 : k = 7 ∨ k = 8 → ∀ i (h : i < d.length), MayO (p - 1) d[i].2)
      (r7 : k = 7 ∨ k = 8 → ∀ i (h : i + 1 < d.length), Rises d[i].1 d[i + 1].1) : MayO p (.mk k n b l d)
section
variable {p k n : Int} {b : List UInt8} {l : List O} {d : List (List UInt8 × O)} (g1 : l ≠ [] → k = 6) (g2 : d ≠ [] → k = 7 ∨ k = 8) (g3 : b ≠ [] → k = 4 ∨ k = 5 ∨ k = 8)
include g1 g2 g3
omit g1 g2 g3 in
omit g1 g2 g3 in
end
section
variable {P : Program} {t : TypeId}
theorem str_leq (a b : List UInt8) : binA P .leq t (.string ⟨a.toArray⟩) (.string ⟨b.toArray⟩) = some (.bool (Op.bytesLess a b || a == b)) := by
  simp only [binA, strOp]
end
end Go.Cl
namespace Go.Cl
open Go.Lib
abbrev lessB (a b : List UInt8) : Bool := Op.bytesLess a b
theorem lessB_total : ∀ (a b : List UInt8), (lessB a b || a == b) = !(lessB b a)
  | [], [] => rfl
  | [], _ :: _ => rfl
  | _ :: _, [] => rfl
  | x :: a, y :: b => by
    have ih := lessB_total a b
    simp only [lessB] at ih ⊢
    simp only [Op.bytesLess, List.cons_beq_cons]
    by_cases h : x = y
    · subst h
      have hx : ¬ x < x := UInt8.lt_irrefl x
      simp only [decide_eq_false hx, Bool.false_or, beq_self_eq_true, Bool.true_and]
      exact ih
    · have h1 : (x == y) = false := by simpa using h
      have h2 : (y == x) = false := by simpa using Ne.symm h
      simp only [h1, h2, Bool.false_and, Bool.or_false]
      by_cases hl : x < y
      · have : ¬ y < x := UInt8.not_lt.2 (UInt8.le_of_lt hl)
        simp [hl, this]
      · have : y < x := UInt8.lt_of_le_of_ne (UInt8.not_lt.1 hl) (Ne.symm h)
        simp [hl, this]
theorem compareBytes_ge : ∀ (a b : List UInt8), 0 ≤ compareBytes a b ↔ lessB a b = false
  | [], [] => by simp [compareBytes, lessB, Op.bytesLess]
  | [], _ :: _ => by simp [compareBytes, lessB, Op.bytesLess]
  | _ :: _, [] => by simp [compareBytes, lessB, Op.bytesLess]
  | x :: a, y :: b => by
    have ih := compareBytes_ge a b
    simp only [lessB] at ih ⊢
    unfold compareBytes
    simp only [Op.bytesLess]
    by_cases h1 : x < y
    · simp [h1]
    · rw [if_neg h1]
      by_cases h2 : y < x
      · have hne : (x == y) = false := by
          have : x ≠ y := fun e => by subst e; exact UInt8.lt_irrefl x h2
          simpa using this
        rw [if_pos h2]; simp [h1, hne]
      · rw [if_neg h2]
        have : x = y := UInt8.le_antisymm (UInt8.not_lt.1 h2) (UInt8.not_lt.1 h1)
        subst this
        simp only [decide_eq_false h1, Bool.false_or, beq_self_eq_true, Bool.true_and]
        exact ih
theorem compareBytes_eq : ∀ (a b : List UInt8), compareBytes a b = 0 ↔ a = b
  | [], [] => by simp [compareBytes]
  | [], _ :: _ => by simp [compareBytes]
  | _ :: _, [] => by simp [compareBytes]
  | x :: a, y :: b => by
    have ih := compareBytes_eq a b
    unfold compareBytes
    by_cases h1 : x < y
    · have : x ≠ y := fun e => by subst e; exact UInt8.lt_irrefl x h1
      simp [h1, this]
    · rw [if_neg h1]
      by_cases h2 : y < x
      · have : x ≠ y := fun e => by subst e; exact UInt8.lt_irrefl x h2
        simp [h2, this]
      · rw [if_neg h2, ih]
        have : x = y := UInt8.le_antisymm (UInt8.not_lt.1 h2) (UInt8.not_lt.1 h1)
        subst this
        simp
def atE (d : List (List UInt8 × O)) (k : List UInt8) : Nat := d.findIdx (fun y => !(lessB y.1 k))
def others (k : List UInt8) (d : List (List UInt8 × O)) : List (List UInt8 × O) := d.filter (fun y => !(y.1 == k))
def putE (d : List (List UInt8 × O)) (e : List UInt8 × O) : List (List UInt8 × O) :=
  others e.1 (d.take (atE d e.1)) ++ (if e.2.kind = 0 then [] else [e]) ++ others e.1 (d.drop (atE d e.1))
def putAll (d l : List (List UInt8 × O)) : List (List UInt8 × O) := l.foldl putE d
end Go.Cl
namespace Go.Cl
def keptN (p : Nat → Bool) : Nat → Nat
  | 0 => 0
  | j + 1 => keptN p j + (if p j then 0 else 1)
def keptC (l : List Value) (z : Nat) (p : Nat → Bool) : Nat → List Value
  | 0 => []
  | j + 1 => keptC l z p j ++ (if p j then [] else (l.drop (j * z)).take z)
theorem keptN_le (p : Nat → Bool) : ∀ j, keptN p j ≤ j
  | 0 => Nat.le_refl _
  | j + 1 => by have := keptN_le p j; unfold keptN; split <;> omega
theorem keptC_len {l : List Value} {z n : Nat} (p : Nat → Bool) (hl : l.length = n * z) : ∀ j, j ≤ n → (keptC l z p j).length = keptN p j * z
  | 0, _ => by simp [keptC, keptN]
  | j + 1, h => by
    have ih := keptC_len p hl j (by omega)
    have hz : (j + 1) * z ≤ n * z := Nat.mul_le_mul_right z h
    rw [Nat.succ_mul] at hz
    unfold keptC keptN
    split
    · simp [ih]
    · rw [List.length_append, ih, List.length_take, List.length_drop, Nat.add_mul, Nat.one_mul]; omega
theorem kept_all {l : List Value} {z : Nat} {p : Nat → Bool} : ∀ k, (∀ i, i < k → p i = false) → keptN p k = k ∧ keptC l z p k = l.take (k * z)
  | 0, _ => by simp [keptC, keptN]
  | k + 1, h => by
    obtain ⟨h1, h2⟩ := kept_all (l := l) (z := z) k (fun i hi => h i (by omega))
    have h3 := h k (by omega)
    unfold keptC keptN
    rw [h1, h2, h3]
    refine ⟨rfl, ?_⟩
    rw [Nat.succ_mul, List.take_add]; rfl
theorem kept_step {l L : List Value} {z n j : Nat} {p : Nat → Bool} (hL : L.length = n * z) (hl : l.length = n * z) (hj : j < n) (h1 : L.take (keptN p j * z) = keptC l z p j) (h2 : L.drop (j * z) = l.drop (j * z)) (hp : p j = false) :
    (over L (keptN p j * z) ((l.drop (j * z)).take z)).take (keptN p (j + 1) * z) = keptC l z p (j + 1) ∧ (over L (keptN p j * z) ((l.drop (j * z)).take z)).drop ((j + 1) * z) = l.drop ((j + 1) * z) := by
  have hz : (j + 1) * z ≤ n * z := Nat.mul_le_mul_right z hj
  have hk : keptN p j * z ≤ j * z := Nat.mul_le_mul_right z (keptN_le p j)
  have hr : ((l.drop (j * z)).take z).length = z := by rw [Nat.succ_mul] at hz; rw [List.length_take, List.length_drop]; omega
  rw [Nat.succ_mul] at hz
  have hkc := keptC_len p hl j (by omega)
  unfold over
  rw [h1, hr]
  have e1 : keptN p (j + 1) * z = keptN p j * z + z := by simp [keptN, hp, Nat.succ_mul]
  constructor
  · rw [e1, List.take_append_of_le_length (by rw [List.length_append, hkc, hr]; omega), List.take_of_length_le (by rw [List.length_append, hkc, hr]; omega)]
    simp [keptC, hp]
  · have e2 : L.drop ((j + 1) * z) = l.drop ((j + 1) * z) := by
      have := congrArg (List.drop z) h2
      rwa [List.drop_drop, List.drop_drop, ← Nat.succ_mul] at this
    have hlen : (keptC l z p j ++ (l.drop (j * z)).take z).length = keptN p j * z + z := by rw [List.length_append, hkc, hr]
    rw [List.drop_append, List.drop_eq_nil_of_le (by rw [hlen, Nat.succ_mul]; omega), List.nil_append, hlen, List.drop_drop, ← e2]
    congr 1
    rw [Nat.succ_mul]; omega
theorem kept_skip {l L : List Value} {z j : Nat} {p : Nat → Bool} (h1 : L.take (keptN p j * z) = keptC l z p j) (h2 : L.drop (j * z) = l.drop (j * z)) (hp : p j = true) : L.take (keptN p (j + 1) * z) = keptC l z p (j + 1) ∧ L.drop ((j + 1) * z) = l.drop ((j + 1) * z) := by
  constructor
  · simp [keptN, keptC, hp, h1]
  · have := congrArg (List.drop z) h2
    rwa [List.drop_drop, List.drop_drop, ← Nat.succ_mul] at this
end Go.Cl
namespace Go.Cl
section
variable {α : Type} {Q : (Nat → Prop) → ASt → List Value → α → Prop} {z : Nat} {F : Nat → Prop} {s : ASt} {D E : List α} {l m : List Value}
def keptD (D : List α) (p : Nat → Bool) : Nat → List α
  | 0 => []
  | j + 1 => keptD D p j ++ (if p j then [] else D[j]?.toList)
theorem ORows.rowLen (h : ORows Q z F s D l) {i : Nat} (hi : i < D.length) : ((l.drop (i * z)).take z).length = z := by
  have e := h.len
  have : (i + 1) * z ≤ D.length * z := Nat.mul_le_mul_right z hi
  rw [Nat.succ_mul] at this
  rw [List.length_take, List.length_drop]; omega
theorem ORows.kept (h : ORows Q z F s D l) (p : Nat → Bool) : ∀ j, j ≤ D.length → ORows Q z F s (keptD D p j) (keptC l z p j)
  | 0, _ => ORows.nil
  | j + 1, hj => by
    have ih := h.kept p j (by omega)
    unfold keptD keptC
    split
    · simpa using ih
    · rw [List.getElem?_eq_getElem (by omega)]
      exact ih.snoc (h.rowLen (by omega)) (h.row j (by omega))
theorem ORows.take (h : ORows Q z F s D l) (k : Nat) (hk : k ≤ D.length) : ORows Q z F s (D.take k) (l.take (k * z)) := by
  have hz : k * z ≤ D.length * z := Nat.mul_le_mul_right z hk
  have e := h.len
  refine ⟨by rw [List.length_take, List.length_take, Nat.min_eq_left hk]; omega, fun i hi => ?_⟩
  have hi' : i < k := by rw [List.length_take] at hi; omega
  have hz2 : (i + 1) * z ≤ k * z := Nat.mul_le_mul_right z hi'
  rw [Nat.succ_mul] at hz2
  have := h.row i (by omega)
  rw [List.getElem_take, List.drop_take, List.take_take, Nat.min_eq_left (by omega)]
  exact this
theorem ORows.drop (h : ORows Q z F s D l) (k : Nat) (hk : k ≤ D.length) : ORows Q z F s (D.drop k) (l.drop (k * z)) := by
  have e := h.len
  refine ⟨by rw [List.length_drop, List.length_drop, e, Nat.sub_mul], fun i hi => ?_⟩
  have hi' : k + i < D.length := by rw [List.length_drop] at hi; omega
  have := h.row (k + i) hi'
  rw [List.getElem_drop, List.drop_drop, ← Nat.add_mul]
  exact this
theorem ORows.append (h : ORows Q z F s D l) (k : ORows Q z F s E m) : ORows Q z F s (D ++ E) (l ++ m) := by
  have e := h.len
  refine ⟨by rw [List.length_append, List.length_append, e, k.len, Nat.add_mul], fun i hi => ?_⟩
  by_cases hlt : i < D.length
  · have hz : (i + 1) * z ≤ D.length * z := Nat.mul_le_mul_right z hlt
    rw [Nat.succ_mul] at hz
    rw [List.getElem_append_left hlt, List.drop_append_of_le_length (by omega), List.take_append_of_le_length (by rw [List.length_drop]; omega)]
    exact h.row i hlt
  · have hi' : i - D.length < E.length := by rw [List.length_append] at hi; omega
    have hz : D.length * z ≤ i * z := Nat.mul_le_mul_right z (by omega)
    rw [List.getElem_append_right (by omega), List.drop_append, List.drop_eq_nil_of_le (by omega), List.nil_append, e, ← Nat.sub_mul]
    exact k.row _ hi'
theorem keptD_filter {p : Nat → Bool} {q : α → Bool} : ∀ j, j ≤ D.length → (∀ i (h : i < D.length), p i = q D[i]) → keptD D p j = (D.take j).filter (fun y => !(q y))
  | 0, _, _ => by simp [keptD]
  | j + 1, hj, h => by
    have hlt : j < D.length := by omega
    have ih := keptD_filter (p := p) (q := q) j (by omega) h
    unfold keptD
    rw [ih, h j hlt, List.take_add_one, List.getElem?_eq_getElem hlt, List.filter_append]
    cases hq : q D[j] <;> simp [hq]
end
end Go.Cl
namespace Go.Cl
open Go.Lib
def onE (D : List (List UInt8 × O)) (q : List UInt8 × O → Bool) (i : Nat) : Bool := match D[i]? with
  | some y => q y
  | none => false
theorem onE_at {D : List (List UInt8 × O)} {q : List UInt8 × O → Bool} {i : Nat} (h : i < D.length) : onE D q i = q D[i] := by
  unfold onE; rw [List.getElem?_eq_getElem h]
theorem atE_le (D : List (List UInt8 × O)) (k : List UInt8) : atE D k ≤ D.length := List.findIdx_le_length
theorem atE_none {D : List (List UInt8 × O)} {k : List UInt8} (h : ∀ i, i < D.length → onE D (fun y => !(lessB y.1 k)) i = false) : atE D k = D.length := by
  unfold atE
  rw [List.findIdx_eq_length]
  intro y hy
  obtain ⟨i, hi, rfl⟩ := List.mem_iff_getElem.1 hy
  have := h i hi
  rwa [onE_at hi] at this
theorem atE_some {D : List (List UInt8 × O)} {k : List UInt8} {r : Nat} (hr : r < D.length) (h1 : onE D (fun y => !(lessB y.1 k)) r = true) (h : ∀ i, i < r → onE D (fun y => !(lessB y.1 k)) i = false) : atE D k = r := by
  unfold atE
  rw [List.findIdx_eq hr]
  refine ⟨by rwa [onE_at hr] at h1, fun j hj => ?_⟩
  have := h j hj
  rwa [onE_at (by omega)] at this
theorem atE_less {D : List (List UInt8 × O)} {k : List UInt8} {i : Nat} (hi : i < atE D k) (h : i < D.length) : lessB D[i].1 k = true := by
  have := List.not_of_lt_findIdx hi
  simpa using this
theorem lessB_irrefl (a : List UInt8) : lessB a a = false := by
  have := lessB_total a a
  simp at this; exact this
theorem others_ahead (D : List (List UInt8 × O)) (k : List UInt8) : others k (D.take (atE D k)) = D.take (atE D k) := by
  unfold others
  rw [List.filter_eq_self]
  intro y hy
  obtain ⟨i, hi, rfl⟩ := List.mem_iff_getElem.1 hy
  rw [List.length_take] at hi
  rw [List.getElem_take]
  have h1 := atE_less (D := D) (k := k) (i := i) (by omega) (by omega)
  by_cases e : D[i].1 = k
  · rw [e, lessB_irrefl] at h1; cases h1
  · simpa using e
end Go.Cl
namespace Go.Cl
def putK (D : List (List UInt8 × O)) (e : List UInt8 × O) (keep : Bool) : List (List UInt8 × O) := others e.1 (D.take (atE D e.1)) ++ (if keep then [e] else []) ++ others e.1 (D.drop (atE D e.1))
theorem putE_eq (D : List (List UInt8 × O)) (e : List UInt8 × O) : putE D e = putK D e (decide (e.2.kind ≠ 0)) := by
  unfold putE putK
  by_cases h : e.2.kind = 0 <;> simp [h]
def O.has (o : O) : Bool := decide (o.kind = 7) || decide (o.kind = 8)
def O.withD : O → List (List UInt8 × O) → O
  | .mk k n b l _, d => .mk k n b l d
def setO (o : O) (L : List (List UInt8 × O)) : O := if o.has then o.withD (putAll o.ents L) else o
theorem others_sub {k : List UInt8} {d : List (List UInt8 × O)} {y : List UInt8 × O} (h : y ∈ others k d) : y ∈ d := (List.mem_filter.1 h).1
theorem putE_mem {D : List (List UInt8 × O)} {e y : List UInt8 × O} (h : y ∈ putE D e) : y ∈ D ∨ y = e := by
  unfold putE at h
  rw [List.mem_append, List.mem_append] at h
  rcases h with (h | h) | h
  · exact .inl (List.mem_of_mem_take (others_sub h))
  · split at h
    · cases h
    · exact .inr (by simpa using h)
  · exact .inl (List.mem_of_mem_drop (others_sub h))
theorem others_len (k : List UInt8) (d : List (List UInt8 × O)) : (others k d).length ≤ d.length := List.length_filter_le _ _
theorem putE_len (D : List (List UInt8 × O)) (e : List UInt8 × O) : (putE D e).length ≤ D.length + 1 := by
  unfold putE
  have h1 := others_len e.1 (D.take (atE D e.1))
  have h2 := others_len e.1 (D.drop (atE D e.1))
  have h3 := atE_le D e.1
  rw [List.length_take] at h1
  rw [List.length_drop] at h2
  rw [List.length_append, List.length_append]
  split <;> simp <;> omega
theorem putAll_snoc (d l : List (List UInt8 × O)) (e : List UInt8 × O) : putAll d (l ++ [e]) = putE (putAll d l) e := by
  unfold putAll; rw [List.foldl_append]; rfl
theorem putAll_take {d l : List (List UInt8 × O)} {i : Nat} (h : i < l.length) : putAll d (l.take (i + 1)) = putE (putAll d (l.take i)) l[i] := by
  rw [List.take_add_one, List.getElem?_eq_getElem h]; exact putAll_snoc _ _ _
theorem putAll_len (d : List (List UInt8 × O)) : ∀ l : List (List UInt8 × O), (putAll d l).length ≤ d.length + l.length := by
  intro l
  induction l generalizing d with
  | nil => exact Nat.le_refl _
  | cons e l ih =>
    have h1 := ih (putE d e)
    have h2 := putE_len d e
    have h3 : putAll d (e :: l) = putAll (putE d e) l := rfl
    rw [h3, List.length_cons]; omega
theorem putAll_mem {y : List UInt8 × O} : ∀ (l d : List (List UInt8 × O)), y ∈ putAll d l → y ∈ d ∨ y ∈ l := by
  intro l
  induction l with
  | nil => intro d h; exact .inl h
  | cons e l ih =>
    intro d h
    rcases ih (putE d e) h with h | h
    · rcases putE_mem h with h | h
      · exact .inl h
      · rw [h]; exact .inr (List.mem_cons_self ..)
    · exact .inr (List.mem_cons_of_mem _ h)
end Go.Cl
namespace Go.Cl
def goW (e : List UInt8 × O) : List (List UInt8 × O) → Bool → List (List UInt8 × O)
  | [], put => if put then [] else [e]
  | y :: r, put => (if !put && !(lessB y.1 e.1) then [e] else []) ++ (if !(y.1 == e.1) then [y] else []) ++ goW e r (put || !(lessB y.1 e.1))
theorem goW_true (e : List UInt8 × O) : ∀ d, goW e d true = others e.1 d
  | [] => rfl
  | y :: r => by
    unfold goW
    rw [Bool.true_or, goW_true e r]
    unfold others
    rw [List.filter_cons]
    cases (!(y.1 == e.1)) <;> simp
theorem goW_false (e : List UInt8 × O) : ∀ d, goW e d false = others e.1 (d.take (atE d e.1)) ++ [e] ++ others e.1 (d.drop (atE d e.1))
  | [] => rfl
  | y :: r => by
    unfold goW
    have ih := goW_false e r
    unfold atE
    rw [List.findIdx_cons]
    cases h : lessB y.1 e.1 with
    | false =>
      simp only [Bool.not_false, Bool.and_self, Bool.or_true, if_true, cond_true, List.take_zero, List.drop_zero]
      rw [goW_true]
      unfold others
      rw [List.filter_cons]
      cases (!(y.1 == e.1)) <;> simp
    | true =>
      simp only [Bool.not_true, Bool.and_false, Bool.or_false, cond_false]
      rw [ih]
      unfold others atE
      rw [List.take_succ_cons, List.drop_succ_cons, List.filter_cons]
      cases (!(y.1 == e.1)) <;> simp
theorem goW_start (e : List UInt8 × O) (d : List (List UInt8 × O)) : goW e d (decide (e.2.kind = 0)) = putE d e := by
  unfold putE
  by_cases h : e.2.kind = 0
  · rw [decide_eq_true h, goW_true, if_pos h]
    unfold others
    rw [List.append_nil, ← List.filter_append, List.take_append_drop]
  · rw [decide_eq_false h, goW_false, if_neg h]
theorem goW_step {e : List UInt8 × O} {d : List (List UInt8 × O)} {i : Nat} (h : i < d.length) (put : Bool) : goW e (d.drop i) put = (if !put && !(lessB d[i].1 e.1) then [e] else []) ++ (if !(d[i].1 == e.1) then [d[i]] else []) ++ goW e (d.drop (i + 1)) (put || !(lessB d[i].1 e.1)) := by
  rw [List.drop_eq_getElem_cons h]; rfl
end Go.Cl
namespace Go.Cl
def partsO : O → List O
  | .mk k _ _ l d => if k = 6 then l else if k = 7 ∨ k = 8 then d.map (·.2) else []
def refsN : Nat → O → List Int
  | 0, _ => []
  | m + 1, o => if o.kind = 9 then [o.num] else (partsO o).flatMap (refsN m)
noncomputable def refsO (o : O) : List Int := refsN (SizeOf.sizeOf o) o
theorem O.size_pos (o : O) : 0 < SizeOf.sizeOf o := by cases o; simp only [O.mk.sizeOf_spec]; omega
def intsV (l : List Int) : List Value := l.map (.int .i64)
end Go.Cl
