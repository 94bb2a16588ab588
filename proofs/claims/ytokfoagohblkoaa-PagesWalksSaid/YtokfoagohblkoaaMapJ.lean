/-
 The clean machine: maps with whole numbers as keys.
-/
import Derived.Test.YtokfoagohblkoaaAgg
namespace Go.Cl
theorem ext0 (a b : Value) : vO (.tuple #[a, b]) 0 = some a := rfl
theorem ext1 (a b : Value) : vO (.tuple #[a, b]) 1 = some b := rfl
def jh (T : List (Int × Value)) : List (Value × Value) := T.map fun e => (.int .i64 e.1, e.2)
def yT (k : Int) : List (Int × Value) -> Option Value
 | [] => none
 | e :: T => if k = e.1 then some e.2 else yT k T
def putJ (k : Int) (v : Value) : List (Int × Value) -> List (Int × Value)
 | [] => [(k, v)]
 | e :: T => if k = e.1 then (e.1, v) :: T else e :: putJ k v T
theorem vV (k j : Int) (v : Value) : ∀ T : List (Int × Value), yT j (putJ k v T) = if j = k then some v else yT j T
 | [] => by simp [putJ, yT]
 | e :: T => by
  unfold putJ
  by_cases h : k = e.1
  ·rw [if_pos h]
   simp only [yT]
   by_cases hj : j = k
   ·rw [if_pos hj, if_pos (hj.trans h)]
   ·rw [if_neg hj, if_neg (fun q => hj (q.trans h.symm)), if_neg (fun q => hj (q.trans h.symm))]
  ·rw [if_neg h]
   simp only [yT]
   by_cases hj : j = e.1
   ·rw [if_pos hj, if_pos hj, if_neg (fun q => h (q.symm.trans hj))]
   ·rw [if_neg hj, if_neg hj, vV k j v T]
theorem XX (k : Int) (v : Value) : ∀ T : List (Int × Value), (putJ k v T).length = if (yT k T).isSome then T.length else T.length + 1
 | [] => rfl
 | e :: T => by
  unfold putJ yT
  by_cases h : k = e.1
  ·rw [if_pos h, if_pos h]; simp
  ·rw [if_neg h, if_neg h, List.length_cons, XX k v T]
   split <;> simp
structure MapJ (s : ASt) (r : Nat) (T : List (Int × Value)) : Prop where
 lt : r < s.next
 map : s.map? r = some (jh T)
theorem MapJ.keeps {s s' : ASt} {r : Nat} {T : List (Int × Value)} (h : MapJ s r T) (k : Stay s.next s s') : MapJ s' r T := by
 refine ⟨Nat.lt_of_lt_of_le h.lt k.next, ?_⟩
 have := h.map
 simp only [ASt.map?, k.get r h.lt] at this ⊢
 exact this
theorem MapJ.turns {s s' : ASt} {r : Nat} {T : List (Int × Value)} {u : Value} (h : MapJ s r T) (k : zA u s s') (hne : idOf u ≠ some r) : MapJ s' r T := by
 refine ⟨Nat.lt_of_lt_of_le h.lt k.next, ?_⟩
 have := h.map
 simp only [ASt.map?, k.get r h.lt hne] at this ⊢
 exact this
theorem MapJ.ofPut {s s' : ASt} {i r : Nat} {T : List (Int × Value)} (h : MapJ s r T) (h1 : s'.next = s.next) (h2 : ∀ q, q ≠ i -> s'.heap.get q = s.heap.get q) (hir : i ≠ r) : MapJ s' r T :=
 h.turns (u := .pointer (some ⟨i, 0, none⟩)) (zA.ofPut h1 h2) (fun e => by
  have e : some i = some r := e
  injection e with e; exact hir e)
section
variable {P : Program} {t kt et : TypeId} {kk : IntKind}
theorem Jp (hk : P.underlying kt = some (.int kk)) (a b : Int) : jT P kt (.int .i64 a) (.int .i64 b) = some (decide (a = b)) := by
 unfold jT; rw [hk]
 simp only [if_true]
 congr 1
theorem YU (hk : P.underlying kt = some (.int kk)) (k : Int) : ∀ T : List (Int × Value), Zj P kt (.int .i64 k) (jh T) = some (yT k T)
 | [] => rfl
 | e :: T => by
  show (match jT P kt (.int .i64 k) (.int .i64 e.1) with
   | some true => some (some e.2)
   | some false => Zj P kt (.int .i64 k) (jh T)
   | none => none) = _
  rw [Jp hk]
  by_cases h : k = e.1
  ·simp [h, yT]
  ·simp only [h, decide_false, yT, if_false]; exact YU hk k T
theorem KI (hk : P.underlying kt = some (.int kk)) (k : Int) (v : Value) : ∀ T : List (Int × Value), updA P kt (.int .i64 k) v (jh T) = some (jh (putJ k v T))
 | [] => rfl
 | e :: T => by
  show (match jT P kt (.int .i64 k) (.int .i64 e.1) with
   | some true => some ((Value.int .i64 e.1, v) :: jh T)
   | some false =>
    match updA P kt (.int .i64 k) v (jh T) with
    | some l => some ((Value.int .i64 e.1, e.2) :: l)
    | none => none
   | none => none) = _
  rw [Jp hk]
  by_cases h : k = e.1
  ·simp only [h, decide_true, putJ, if_true]; rfl
  ·simp only [h, decide_false, putJ, if_false]
   rw [KI hk k v T]
   rfl
theorem MapJ.lookup (hu : P.underlying t = some (.map kt et)) (hk : P.underlying kt = some (.int kk)) {zv : Value} (hz : yj P et = some zv) (hp : yn zv = true) {s : ASt} {r : Nat} {T : List (Int × Value)} (h : MapJ s r T) (k : Int) :
  wx P s t (.map (some r)) (.int .i64 k) true = some (.tuple #[(yT k T).getD zv, .bool (yT k T).isSome]) := by
 have hkk : wj P kt (.int .i64 k) = true := by unfold wj; rw [hk]
 unfold wx
 rw [hu]
 simp only [hz, hkk, hp, if_true, h.map, YU hk]
 cases yT k T <;> rfl
theorem MapJ.get (hu : P.underlying t = some (.map kt et)) (hk : P.underlying kt = some (.int kk)) {zv : Value} (hz : yj P et = some zv) (hp : yn zv = true) {s : ASt} {r : Nat} {T : List (Int × Value)} (h : MapJ s r T) (k : Int) :
  wx P s t (.map (some r)) (.int .i64 k) false = some ((yT k T).getD zv) := by
 have hkk : wj P kt (.int .i64 k) = true := by unfold wj; rw [hk]
 unfold wx
 rw [hu]
 simp only [hz, hkk, hp, if_true, h.map, YU hk]
 cases yT k T <;> rfl
theorem MapJ.len (hu : P.underlying t = some (.map kt et)) {s : ASt} {r : Nat} {T : List (Int × Value)} (h : MapJ s r T) : lenA P s t (.map (some r)) = some (.int .i64 T.length) := by
 unfold lenA
 rw [hu]
 simp only [h.map]
 simp [jh]
theorem MapJ.update (hu : P.underlying t = some (.map kt et)) (hk : P.underlying kt = some (.int kk)) {s : ASt} {r : Nat} {T : List (Int × Value)} (h : MapJ s r T) (k : Int) (v : Value) :
  ∃ s', wc P s t (.map (some r)) (.int .i64 k) v = some s' ∧ MapJ s' r (putJ k v T) ∧ s'.next = s.next ∧ ∀ j, j ≠ r -> s'.heap.get j = s.heap.get j := by
 have hkk : wj P kt (.int .i64 k) = true := by unfold wj; rw [hk]
 refine ⟨s.put r (.map (jh (putJ k v T))), ?_, ⟨by simpa [ASt.put] using h.lt, ?_⟩, rfl, fun j hj => ASt.get_put_ne _ _ _ _ (Ne.symm hj)⟩
 ·unfold wc
  rw [hu]
  simp only [h.map, hkk, KI hk k v T]
 ·simp only [ASt.map?, ASt.put, Tr.get_set_self _ _ _ _ (deep (by omega))]
end
section
variable {P : Program} {lib : zm} {all r : List Oper} {f : AFr} {s : ASt} {d : Option Tmp} {Q : AFr -> ASt -> Prop} {kk : IntKind}
theorem jK {t kt et : TypeId} (hu : P.underlying t = some (.map kt et)) (hk : P.underlying kt = some (.int kk)) {q : Nat} {T : List (Int × Value)} (h : MapJ s q T) (k : Int) (v : Value)
  (K : ∀ s', MapJ s' q (putJ k v T) -> s'.next = s.next -> (∀ j, j ≠ q -> s'.heap.get j = s.heap.get j) -> xp P lib all r f s d Q (some (.val undef s'))) : xp P lib all r f s d Q (uOf (wc P s t (.map (some q)) (.int .i64 k) v)) := by
 obtain ⟨s', h1, h2, h3, h4⟩ := h.update hu hk k v
 rw [h1, vP]
 exact K s' h2 h3 h4
end
namespace LB
section
variable {P : Program} {lib : zm} {A : Nat -> Bool} {g : Nat} {all r : List Oper} {id : Nat} {f : AFr} {T : ASt} {d : Option Tmp} {Q : AFr -> ASt -> Prop} {kk : IntKind}
end
end LB
end Go.Cl