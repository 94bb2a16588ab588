/-
 The clean machine: maps with whole numbers as keys.
-/
import Derived.Test.YthlbahnfimigcaaAgg
namespace Go.Cl
theorem quiet_lookup {P : Program} {d : Option Tmp} {ty : TypeId} {ps : String} {af : Array Edge} {gd : Option (Nat × Bool)} (t : TypeId) (x y : Operand) (ok : Bool) : quietOp P ⟨d, .lookup t x y ok, ty, ps, af, gd⟩ = true := rfl
theorem ext0 (a b : Value) : extractA (.tuple #[a, b]) 0 = some a := rfl
theorem ext1 (a b : Value) : extractA (.tuple #[a, b]) 1 = some b := rfl
theorem valEq_mapV (a : Option Nat) : valEq (.map a) (.map a) = true := by simp [valEq, valEq1]
theorem valEq_look (k : IntKind) (n : Int) (b : Bool) : valEq (.tuple #[.int k n, .bool b]) (.tuple #[.int k n, .bool b]) = true := by simp [valEq, valEqM, valEq2, valEq1]
def entsJ (T : List (Int × Value)) : List (Value × Value) := T.map fun e => (.int .i64 e.1, e.2)
def seekJ (k : Int) : List (Int × Value) -> Option Value
 | [] => none
 | e :: T => if k = e.1 then some e.2 else seekJ k T
def putJ (k : Int) (v : Value) : List (Int × Value) -> List (Int × Value)
 | [] => [(k, v)]
 | e :: T => if k = e.1 then (e.1, v) :: T else e :: putJ k v T
theorem seekJ_put (k j : Int) (v : Value) : ∀ T : List (Int × Value), seekJ j (putJ k v T) = if j = k then some v else seekJ j T
 | [] => by simp [putJ, seekJ]
 | e :: T => by
  unfold putJ
  by_cases h : k = e.1
  ·rw [if_pos h]
   simp only [seekJ]
   by_cases hj : j = k
   ·rw [if_pos hj, if_pos (hj.trans h)]
   ·rw [if_neg hj, if_neg (fun q => hj (q.trans h.symm)), if_neg (fun q => hj (q.trans h.symm))]
  ·rw [if_neg h]
   simp only [seekJ]
   by_cases hj : j = e.1
   ·rw [if_pos hj, if_pos hj, if_neg (fun q => h (q.symm.trans hj))]
   ·rw [if_neg hj, if_neg hj, seekJ_put k j v T]
structure MapJ (s : ASt) (r : Nat) (T : List (Int × Value)) : Prop where
 lt : r < s.next
 map : s.map? r = some (entsJ T)
theorem MapJ.keeps {s s' : ASt} {r : Nat} {T : List (Int × Value)} (h : MapJ s r T) (k : Stay s.next s s') : MapJ s' r T := by
 refine ⟨Nat.lt_of_lt_of_le h.lt k.next, ?_⟩
 have := h.map
 simp only [ASt.map?, k.get r h.lt] at this ⊢
 exact this
theorem MapJ.turns {s s' : ASt} {r : Nat} {T : List (Int × Value)} {u : Value} (h : MapJ s r T) (k : Turns u s s') (hne : idOf u ≠ some r) : MapJ s' r T := by
 refine ⟨Nat.lt_of_lt_of_le h.lt k.next, ?_⟩
 have := h.map
 simp only [ASt.map?, k.get r h.lt hne] at this ⊢
 exact this
theorem MapJ.ofPut {s s' : ASt} {i r : Nat} {T : List (Int × Value)} (h : MapJ s r T) (h1 : s'.next = s.next) (h2 : ∀ q, q ≠ i -> s'.heap.get q = s.heap.get q) (hir : i ≠ r) : MapJ s' r T :=
 h.turns (u := .pointer (some ⟨i, 0, none⟩)) (Turns.ofPut h1 h2) (fun e => by
  have e : some i = some r := e
  injection e with e; exact hir e)
section
variable {P : Program} {t kt et : TypeId} {kk : IntKind}
theorem keyEq_int (hk : P.underlying kt = some (.int kk)) (a b : Int) : keyEq P kt (.int .i64 a) (.int .i64 b) = some (decide (a = b)) := by
 unfold keyEq; rw [hk]
 simp only [if_true]
 congr 1
theorem findA_int (hk : P.underlying kt = some (.int kk)) (k : Int) : ∀ T : List (Int × Value), findA P kt (.int .i64 k) (entsJ T) = some (seekJ k T)
 | [] => rfl
 | e :: T => by
  show (match keyEq P kt (.int .i64 k) (.int .i64 e.1) with
   | some true => some (some e.2)
   | some false => findA P kt (.int .i64 k) (entsJ T)
   | none => none) = _
  rw [keyEq_int hk]
  by_cases h : k = e.1
  ·simp [h, seekJ]
  ·simp only [h, decide_false, seekJ, if_false]; exact findA_int hk k T
theorem updA_int (hk : P.underlying kt = some (.int kk)) (k : Int) (v : Value) : ∀ T : List (Int × Value), updA P kt (.int .i64 k) v (entsJ T) = some (entsJ (putJ k v T))
 | [] => rfl
 | e :: T => by
  show (match keyEq P kt (.int .i64 k) (.int .i64 e.1) with
   | some true => some ((Value.int .i64 e.1, v) :: entsJ T)
   | some false =>
    match updA P kt (.int .i64 k) v (entsJ T) with
    | some l => some ((Value.int .i64 e.1, e.2) :: l)
    | none => none
   | none => none) = _
  rw [keyEq_int hk]
  by_cases h : k = e.1
  ·simp only [h, decide_true, putJ, if_true]; rfl
  ·simp only [h, decide_false, putJ, if_false]
   rw [updA_int hk k v T]
   rfl
theorem MapJ.lookup (hu : P.underlying t = some (.map kt et)) (hk : P.underlying kt = some (.int kk)) {zv : Value} (hz : zeroB P et = some zv) (hp : plainV zv = true) {s : ASt} {r : Nat} {T : List (Int × Value)} (h : MapJ s r T) (k : Int) :
  lookupA P s t (.map (some r)) (.int .i64 k) true = some (.tuple #[(seekJ k T).getD zv, .bool (seekJ k T).isSome]) := by
 have hkk : keyKind P kt (.int .i64 k) = true := by unfold keyKind; rw [hk]
 unfold lookupA
 rw [hu]
 simp only [hz, hkk, hp, if_true, h.map, findA_int hk]
 cases seekJ k T <;> rfl
theorem MapJ.get (hu : P.underlying t = some (.map kt et)) (hk : P.underlying kt = some (.int kk)) {zv : Value} (hz : zeroB P et = some zv) (hp : plainV zv = true) {s : ASt} {r : Nat} {T : List (Int × Value)} (h : MapJ s r T) (k : Int) :
  lookupA P s t (.map (some r)) (.int .i64 k) false = some ((seekJ k T).getD zv) := by
 have hkk : keyKind P kt (.int .i64 k) = true := by unfold keyKind; rw [hk]
 unfold lookupA
 rw [hu]
 simp only [hz, hkk, hp, if_true, h.map, findA_int hk]
 cases seekJ k T <;> rfl
theorem MapJ.len (hu : P.underlying t = some (.map kt et)) {s : ASt} {r : Nat} {T : List (Int × Value)} (h : MapJ s r T) : lenA P s t (.map (some r)) = some (.int .i64 T.length) := by
 unfold lenA
 rw [hu]
 simp only [h.map]
 simp [entsJ]
theorem MapJ.update (hu : P.underlying t = some (.map kt et)) (hk : P.underlying kt = some (.int kk)) {s : ASt} {r : Nat} {T : List (Int × Value)} (h : MapJ s r T) (k : Int) (v : Value) :
  ∃ s', mapUpdateA P s t (.map (some r)) (.int .i64 k) v = some s' ∧ MapJ s' r (putJ k v T) ∧ s'.next = s.next ∧ ∀ j, j ≠ r -> s'.heap.get j = s.heap.get j := by
 have hkk : keyKind P kt (.int .i64 k) = true := by unfold keyKind; rw [hk]
 refine ⟨s.put r (.map (entsJ (putJ k v T))), ?_, ⟨by simpa [ASt.put] using h.lt, ?_⟩, rfl, fun j hj => ASt.get_put_ne _ _ _ _ (Ne.symm hj)⟩
 ·unfold mapUpdateA
  rw [hu]
  simp only [h.map, hkk, updA_int hk k v T]
 ·simp only [ASt.map?, ASt.put, Tr.get_set_self _ _ _ _ (deep (by omega))]
end
section
variable {P : Program} {lib : Prims} {all r : List Oper} {f : AFr} {s : ASt} {d : Option Tmp} {Q : AFr -> ASt -> Prop} {kk : IntKind}
end
namespace LB
section
variable {P : Program} {lib : Prims} {A : Nat -> Bool} {g : Nat} {all r : List Oper} {id : Nat} {f : AFr} {T : ASt} {d : Option Tmp} {Q : AFr -> ASt -> Prop} {kk : IntKind}
theorem sstep_mapUpdateJ {t kt et : TypeId} (hu : P.underlying t = some (.map kt et)) (hk : P.underlying kt = some (.int kk)) {q : Nat} {M : List (Int × Value)} (h : MapJ T q M) (k : Int) (v : Value) (hA : g ≠ 0 -> A q = false)
  (K : ∀ T', MapJ T' q (putJ k v M) -> T'.next = T.next -> (∀ j, j ≠ q -> T'.heap.get j = T.heap.get j) -> scall P lib A (g - 1) all r id f d Q undef T') : sstep P lib A g all r id f d T Q (uOf (mapUpdateA P T t (.map (some q)) (.int .i64 k) v)) := by
 obtain ⟨s', h1, h2, h3, h4⟩ := h.update hu hk k v
 rw [h1, uOf_some, sstep_val]
 exact ⟨fun hg => ⟨by omega, fun j hj => h4 j (fun e => by have := hA hg; rw [e, this] at hj; cases hj)⟩, K s' h2 h3 h4⟩
theorem sstep_storeElem {e : TypeId} (hsz : sizeB P e = some 1) {v : Value} {n : Nat} {l : List Value} (h : Own T 1 v n l) {k : Nat} (hk : k < n) {w : Value} (hw : okCell w = true) (hA1 : g ≠ 0 -> ∀ i, idOf v = some i -> A i = false) (hA2 : ∀ i, A i = true -> i < T.next)
  (K : ∀ T', Own T' 1 v n (l.set k w) -> Turns v T T' -> scall P lib A (g - 1) all r id f d Q undef T') : sstep P lib A g all r id f d T Q (uOf (storeA P T e (elemPtr 1 v k) w)) := by
 obtain ⟨s', h1, h2, h3⟩ := h.put hsz hk hw
 rw [h1, uOf_some, sstep_val]
 exact ⟨fun hg => ⟨h3.next, fun i hi => h3.get i (hA2 i hi) (fun e => by have := hA1 hg i e; rw [hi] at this; cases this)⟩, K s' h2 h3⟩
end
end LB
end Go.Cl