/-
  The clean machine: maps with texts as keys and whatever values.
-/
import Derived.Test.YtpdkppimlcbhlaaStr
namespace Go.Cl
/-- A map's entries, in the order in which they came. -/
def entsV (T : List (List UInt8 × Value)) : List (Value × Value) := T.map fun e => (.string ⟨e.1.toArray⟩, e.2)
def seekV (k : List UInt8) : List (List UInt8 × Value) → Option Value
  | [] => none
  | e :: T => if k = e.1 then some e.2 else seekV k T
theorem seekV_none {k : List UInt8} : ∀ {T : List (List UInt8 × Value)}, seekV k T = none ↔ ∀ e ∈ T, k ≠ e.1
  | [] => by simp [seekV]
  | e :: T => by
    simp only [seekV]
    by_cases h : k = e.1
    · rw [if_pos h]; simp [h]
    · rw [if_neg h, seekV_none]; simp [h]
theorem seekV_snoc (k : List UInt8) (T : List (List UInt8 × Value)) (e : List UInt8 × Value) : seekV k (T ++ [e]) = match seekV k T with
    | some v => some v
    | none => if k = e.1 then some e.2 else none := by
  induction T with
  | nil => simp [seekV]
  | cons a T ih =>
    simp only [List.cons_append, seekV]
    by_cases h : k = a.1
    · rw [if_pos h, if_pos h]
    · rw [if_neg h, if_neg h]; exact ih
structure MapVs (s : ASt) (r : Nat) (T : List (List UInt8 × Value)) : Prop where
  lt : r < s.next
  map : s.map? r = some (entsV T)
theorem MapVs.keeps {s s' : ASt} {r : Nat} {T : List (List UInt8 × Value)} (h : MapVs s r T) (k : Stay s.next s s') : MapVs s' r T := by
  refine ⟨Nat.lt_of_lt_of_le h.lt k.next, ?_⟩
  have := h.map
  simp only [ASt.map?, k.get r h.lt] at this ⊢
  exact this
theorem MapVs.turns {s s' : ASt} {r : Nat} {T : List (List UInt8 × Value)} {u : Value} (h : MapVs s r T) (k : Turns u s s') (hne : idOf u ≠ some r) : MapVs s' r T := by
  refine ⟨Nat.lt_of_lt_of_le h.lt k.next, ?_⟩
  have := h.map
  simp only [ASt.map?, k.get r h.lt hne] at this ⊢
  exact this
section
variable {P : Program} {t kt et : TypeId}
theorem keyEqV_str (hk : P.underlying kt = some .string) (a b : List UInt8) : keyEq P kt (.string ⟨a.toArray⟩) (.string ⟨b.toArray⟩) = some (decide (a = b)) := by
  unfold keyEq; rw [hk]
  simp only
  congr 1
  by_cases h : a = b
  · subst h; simp
  · simp [h]
theorem findAV_str (hk : P.underlying kt = some .string) (k : List UInt8) : ∀ T : List (List UInt8 × Value), findA P kt (.string ⟨k.toArray⟩) (entsV T) = some (seekV k T)
  | [] => rfl
  | e :: T => by
    show (match keyEq P kt (.string ⟨k.toArray⟩) (.string ⟨e.1.toArray⟩) with
      | some true => some (some e.2)
      | some false => findA P kt (.string ⟨k.toArray⟩) (entsV T)
      | none => none) = _
    rw [keyEqV_str hk]
    by_cases h : k = e.1
    · simp [h, seekV]
    · simp only [h, decide_false, seekV, if_false]; exact findAV_str hk k T
theorem updAV_str (hk : P.underlying kt = some .string) (k : List UInt8) (v : Value) : ∀ T : List (List UInt8 × Value), seekV k T = none → updA P kt (.string ⟨k.toArray⟩) v (entsV T) = some (entsV (T ++ [(k, v)]))
  | [], _ => rfl
  | e :: T, hn => by
    simp only [seekV] at hn
    have h : ¬ k = e.1 := fun q => by rw [if_pos q] at hn; cases hn
    rw [if_neg h] at hn
    show (match keyEq P kt (.string ⟨k.toArray⟩) (.string ⟨e.1.toArray⟩) with
      | some true => some ((Value.string ⟨e.1.toArray⟩, v) :: entsV T)
      | some false =>
        match updA P kt (.string ⟨k.toArray⟩) v (entsV T) with
        | some l => some ((Value.string ⟨e.1.toArray⟩, e.2) :: l)
        | none => none
      | none => none) = _
    rw [keyEqV_str hk]
    simp only [h, decide_false]
    rw [updAV_str hk k v T hn]
    rfl
theorem MapVs.lookup (hu : P.underlying t = some (.map kt et)) (hk : P.underlying kt = some .string) {z : Value} (hz : zeroB P et = some z) (hp : plainV z = true) {s : ASt} {r : Nat} {T : List (List UInt8 × Value)} (h : MapVs s r T) (k : List UInt8) :
    lookupA P s t (.map (some r)) (.string ⟨k.toArray⟩) true = some (.tuple #[(seekV k T).getD z, .bool (seekV k T).isSome]) := by
  unfold lookupA
  rw [hu]
  have hkk : keyKind P kt (.string ⟨k.toArray⟩) = true := by unfold keyKind; rw [hk]
  simp only [hz, hkk, hp, if_true, h.map, findAV_str hk]
  cases seekV k T <;> rfl
theorem MapVs.len (hu : P.underlying t = some (.map kt et)) {s : ASt} {r : Nat} {T : List (List UInt8 × Value)} (h : MapVs s r T) : lenA P s t (.map (some r)) = some (.int .i64 T.length) := by
  unfold lenA
  rw [hu]
  simp only [h.map]
  simp [entsV]
theorem MapVs.update (hu : P.underlying t = some (.map kt et)) (hk : P.underlying kt = some .string) {s : ASt} {r : Nat} {T : List (List UInt8 × Value)} (h : MapVs s r T) (k : List UInt8) (v : Value) (hn : seekV k T = none) :
    ∃ s', mapUpdateA P s t (.map (some r)) (.string ⟨k.toArray⟩) v = some s' ∧ MapVs s' r (T ++ [(k, v)]) ∧ s'.next = s.next ∧ ∀ j, j ≠ r → s'.heap.get j = s.heap.get j := by
  have hkk : keyKind P kt (.string ⟨k.toArray⟩) = true := by unfold keyKind; rw [hk]
  refine ⟨s.put r (.map (entsV (T ++ [(k, v)]))), ?_, ⟨by simpa [ASt.put] using h.lt, ?_⟩, rfl, fun j hj => ASt.get_put_ne _ _ _ _ (Ne.symm hj)⟩
  · unfold mapUpdateA
    rw [hu]
    simp only [h.map, hkk, updAV_str hk k v T hn]
  · simp only [ASt.map?, ASt.put, Tr.get_set_self _ _ _ _ (deep (by omega))]
end
section
variable {P : Program} {lib : Prims} {all r : List Oper} {f : AFr} {s : ASt} {d : Option Tmp} {Q : AFr → ASt → Prop}
theorem wstep_makeMapV (K : ∀ s', MapVs s' s.next [] → Stay s.next s s' → s'.next = s.next + 1 → wstep P lib all r f s d Q (some (.val (.map (some s.next)) s'))) : wstep P lib all r f s d Q (some (.val (.map (some s.next)) (s.new (.map [])))) := by
  refine K _ ⟨by rw [next_new]; omega, ?_⟩ (Stay.new s _) rfl
  simp only [ASt.map?, ASt.new, Tr.get_set_self _ _ _ _ (deep (by omega))]
  rfl
theorem wstep_mapUpdateV {t kt et : TypeId} (hu : P.underlying t = some (.map kt et)) (hk : P.underlying kt = some .string) {q : Nat} {T : List (List UInt8 × Value)} (h : MapVs s q T) (k : List UInt8) (v : Value) (hn : seekV k T = none)
    (K : ∀ s', MapVs s' q (T ++ [(k, v)]) → s'.next = s.next → (∀ j, j ≠ q → s'.heap.get j = s.heap.get j) → wstep P lib all r f s d Q (some (.val undef s'))) : wstep P lib all r f s d Q (uOf (mapUpdateA P s t (.map (some q)) (.string ⟨k.toArray⟩) v)) := by
  obtain ⟨s', h1, h2, h3, h4⟩ := h.update hu hk k v hn
  rw [h1, uOf_some]
  exact K s' h2 h3 h4
end
end Go.Cl
