/-
  The clean machine: maps with texts as keys and whole numbers as values.
-/
import Derived.Test.YtoddiggebjbnnaaStr
namespace Go.Cl
/-- A map's entries, in the order in which they came. -/
def ents (T : List (List UInt8 × Int)) : List (Value × Value) := T.map fun e => (.string ⟨e.1.toArray⟩, .int .i64 e.2)
def seek (k : List UInt8) : List (List UInt8 × Int) → Option Int
  | [] => none
  | e :: T => if k = e.1 then some e.2 else seek k T
theorem seek_none {k : List UInt8} : ∀ {T : List (List UInt8 × Int)}, seek k T = none ↔ ∀ e ∈ T, k ≠ e.1
  | [] => by simp [seek]
  | e :: T => by
    simp only [seek]
    by_cases h : k = e.1
    · rw [if_pos h]; simp [h]
    · rw [if_neg h, seek_none]; simp [h]
theorem seek_snoc (k : List UInt8) (T : List (List UInt8 × Int)) (e : List UInt8 × Int) : seek k (T ++ [e]) = match seek k T with
    | some v => some v
    | none => if k = e.1 then some e.2 else none := by
  induction T with
  | nil => simp [seek]
  | cons a T ih =>
    simp only [List.cons_append, seek]
    by_cases h : k = a.1
    · rw [if_pos h, if_pos h]
    · rw [if_neg h, if_neg h]; exact ih
structure MapIs (s : ASt) (r : Nat) (T : List (List UInt8 × Int)) : Prop where
  lt : r < s.next
  map : s.map? r = some (ents T)
theorem MapIs.keeps {s s' : ASt} {r : Nat} {T : List (List UInt8 × Int)} (h : MapIs s r T) (k : Stay s.next s s') : MapIs s' r T := by
  refine ⟨Nat.lt_of_lt_of_le h.lt k.next, ?_⟩
  have := h.map
  simp only [ASt.map?, k.get r h.lt] at this ⊢
  exact this
theorem MapIs.turns {s s' : ASt} {r : Nat} {T : List (List UInt8 × Int)} {u : Value} (h : MapIs s r T) (k : Turns u s s') (hne : idOf u ≠ some r) : MapIs s' r T := by
  refine ⟨Nat.lt_of_lt_of_le h.lt k.next, ?_⟩
  have := h.map
  simp only [ASt.map?, k.get r h.lt hne] at this ⊢
  exact this
section
variable {P : Program} {t kt et : TypeId}
theorem keyEq_str (hk : P.underlying kt = some .string) (a b : List UInt8) : keyEq P kt (.string ⟨a.toArray⟩) (.string ⟨b.toArray⟩) = some (decide (a = b)) := by
  unfold keyEq; rw [hk]
  simp only
  congr 1
  by_cases h : a = b
  · subst h; simp
  · simp [h]
theorem findA_str (hk : P.underlying kt = some .string) (k : List UInt8) : ∀ T : List (List UInt8 × Int), findA P kt (.string ⟨k.toArray⟩) (ents T) = some ((seek k T).map fun v => .int .i64 v)
  | [] => rfl
  | e :: T => by
    show (match keyEq P kt (.string ⟨k.toArray⟩) (.string ⟨e.1.toArray⟩) with
      | some true => some (some (Value.int .i64 e.2))
      | some false => findA P kt (.string ⟨k.toArray⟩) (ents T)
      | none => none) = _
    rw [keyEq_str hk]
    by_cases h : k = e.1
    · simp [h, seek]
    · simp only [h, decide_false, seek, if_false]; exact findA_str hk k T
theorem updA_str (hk : P.underlying kt = some .string) (k : List UInt8) (v : Int) : ∀ T : List (List UInt8 × Int), seek k T = none → updA P kt (.string ⟨k.toArray⟩) (.int .i64 v) (ents T) = some (ents (T ++ [(k, v)]))
  | [], _ => rfl
  | e :: T, hn => by
    simp only [seek] at hn
    have h : ¬ k = e.1 := fun q => by rw [if_pos q] at hn; cases hn
    rw [if_neg h] at hn
    show (match keyEq P kt (.string ⟨k.toArray⟩) (.string ⟨e.1.toArray⟩) with
      | some true => some ((Value.string ⟨e.1.toArray⟩, Value.int .i64 v) :: ents T)
      | some false =>
        match updA P kt (.string ⟨k.toArray⟩) (.int .i64 v) (ents T) with
        | some l => some ((Value.string ⟨e.1.toArray⟩, Value.int .i64 e.2) :: l)
        | none => none
      | none => none) = _
    rw [keyEq_str hk]
    simp only [h, decide_false]
    rw [updA_str hk k v T hn]
    rfl
theorem MapIs.lookup (hu : P.underlying t = some (.map kt et)) (hk : P.underlying kt = some .string) (hz : zeroB P et = some (.int .i64 0)) {s : ASt} {r : Nat} {T : List (List UInt8 × Int)} (h : MapIs s r T) (k : List UInt8) :
    lookupA P s t (.map (some r)) (.string ⟨k.toArray⟩) true = some (.tuple #[.int .i64 ((seek k T).getD 0), .bool (seek k T).isSome]) := by
  unfold lookupA
  rw [hu]
  have hkk : keyKind P kt (.string ⟨k.toArray⟩) = true := by unfold keyKind; rw [hk]
  have hp : plainV (.int .i64 0) = true := rfl
  simp only [hz, hkk, hp, if_true, h.map, findA_str hk]
  cases seek k T <;> rfl
theorem MapIs.len (hu : P.underlying t = some (.map kt et)) {s : ASt} {r : Nat} {T : List (List UInt8 × Int)} (h : MapIs s r T) : lenA P s t (.map (some r)) = some (.int .i64 T.length) := by
  unfold lenA
  rw [hu]
  simp only [h.map]
  simp [ents]
theorem MapIs.update (hu : P.underlying t = some (.map kt et)) (hk : P.underlying kt = some .string) {s : ASt} {r : Nat} {T : List (List UInt8 × Int)} (h : MapIs s r T) (k : List UInt8) (v : Int) (hn : seek k T = none) :
    ∃ s', mapUpdateA P s t (.map (some r)) (.string ⟨k.toArray⟩) (.int .i64 v) = some s' ∧ MapIs s' r (T ++ [(k, v)]) ∧ s'.next = s.next ∧ ∀ j, j ≠ r → s'.heap.get j = s.heap.get j := by
  have hkk : keyKind P kt (.string ⟨k.toArray⟩) = true := by unfold keyKind; rw [hk]
  refine ⟨s.put r (.map (ents (T ++ [(k, v)]))), ?_, ⟨by simpa [ASt.put] using h.lt, ?_⟩, rfl, fun j hj => ASt.get_put_ne _ _ _ _ (Ne.symm hj)⟩
  · unfold mapUpdateA
    rw [hu]
    simp only [h.map, hkk, updA_str hk k v T hn]
  · simp only [ASt.map?, ASt.put, Tr.get_set_self _ _ _ _ (deep (by omega))]
end
section
variable {P : Program} {lib : Prims} {all r : List Oper} {f : AFr} {s : ASt} {d : Option Tmp} {Q : AFr → ASt → Prop}
theorem wstep_makeMap (K : ∀ s', MapIs s' s.next [] → Stay s.next s s' → s'.next = s.next + 1 → wstep P lib all r f s d Q (some (.val (.map (some s.next)) s'))) : wstep P lib all r f s d Q (some (.val (.map (some s.next)) (s.new (.map [])))) := by
  refine K _ ⟨by rw [next_new]; omega, ?_⟩ (Stay.new s _) rfl
  simp only [ASt.map?, ASt.new, Tr.get_set_self _ _ _ _ (deep (by omega))]
  rfl
theorem wstep_mapUpdate {t kt et : TypeId} (hu : P.underlying t = some (.map kt et)) (hk : P.underlying kt = some .string) {q : Nat} {T : List (List UInt8 × Int)} (h : MapIs s q T) (k : List UInt8) (v : Int) (hn : seek k T = none)
    (K : ∀ s', MapIs s' q (T ++ [(k, v)]) → s'.next = s.next → (∀ j, j ≠ q → s'.heap.get j = s.heap.get j) → wstep P lib all r f s d Q (some (.val undef s'))) : wstep P lib all r f s d Q (uOf (mapUpdateA P s t (.map (some q)) (.string ⟨k.toArray⟩) (.int .i64 v))) := by
  obtain ⟨s', h1, h2, h3, h4⟩ := h.update hu hk k v hn
  rw [h1, uOf_some]
  exact K s' h2 h3 h4
end
end Go.Cl
