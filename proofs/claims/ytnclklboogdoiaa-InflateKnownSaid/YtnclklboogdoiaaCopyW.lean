/-
  The clean machine: copy into what is one's own; append of so many noughts; a slice cut to its length.
-/
import Derived.Test.YtnclklboogdoiaaAgg
namespace Go.Cl
def Room (s : ASt) (v : Value) (n : Nat) (l : List Value) : Prop := Own s 1 v n l ∨ (n = 0 ∧ l = [] ∧ ∃ i off, v = .slice (some ⟨i, off, none⟩) 0 0)
theorem Own.room {s : ASt} {v : Value} {n : Nat} {l : List Value} (h : Own s 1 v n l) : Room s v n l := .inl h
theorem Room.sees {s : ASt} {v : Value} {n : Nat} {l : List Value} (h : Room s v n l) : Sees s 1 v n l := by
  rcases h with h | ⟨rfl, rfl, i, off, rfl⟩
  · exact h.sees
  · exact .bare i off
theorem Room.own {s : ASt} {v : Value} {n : Nat} {l : List Value} (h : Room s v n l) (hn : 0 < n) : Own s 1 v n l := by
  rcases h with h | ⟨h, _⟩
  · exact h
  · omega
theorem Room.keeps {s s' : ASt} {v : Value} {n : Nat} {l : List Value} (h : Room s v n l) (k : Stay s.next s s') : Room s' v n l := by
  rcases h with h | h
  · exact .inl (h.keeps k)
  · exact .inr h
theorem Sees.cutSrc {s : ASt} {y : Value} {m : Nat} {new : List Value} (h : Sees s 1 y m new) (r : Nat) : ∃ y2, Cl.cutSrc r y = some (min m r, y2) ∧ srcCells s 1 y2 = some (min m r, new.take (min m r)) := by
  have hl := h.length
  have hcut := (h.cut (lo := 0) (hi := min m r) (by omega) (by omega)).src
  rw [Nat.zero_mul, List.drop_zero, Nat.sub_zero, Nat.mul_one] at hcut
  cases h with
  | nil => exact ⟨.slice none (min 0 r) 0, rfl, by simpa [cutS] using hcut⟩
  | bare i off => exact ⟨.slice (some ⟨i, off, none⟩) (min 0 r) 0, rfl, by simpa [cutS] using hcut⟩
  | of i off n c b l hi hb hz hl hc hlen hoff ht => exact ⟨.slice (some ⟨i, off, none⟩) (min m r) c, rfl, by simpa [cutS] using hcut⟩
theorem Room.slice {P : Program} {t e : TypeId} (hu : P.underlying t = some (.slice e)) (hsz : sizeB P e = some 1) {s : ASt} {v : Value} {n : Nat} {l : List Value} (h : Room s v n l) {k : IntKind} {x : Int} (h0 : 0 ≤ x) (h2 : x ≤ n) : sliceA P s t v (some (.int k x)) none none = some (cutS 1 v x.toNat n) := h.sees.sliceLow hu hsz h0 h2
theorem Own.tight {P : Program} {t e : TypeId} (hu : P.underlying t = some (.slice e)) (hsz : sizeB P e = some 1) {s : ASt} {v : Value} {n : Nat} {l : List Value} (h : Own s 1 v n l) {k k2 : IntKind} : ∃ v', sliceA P s t v none (some (.int k (n : Nat))) (some (.int k2 (n : Nat))) = some v' ∧ Room s v' n l ∧ (0 < n → v' = v) ∧ (∀ i, idOf v' = some i → idOf v = some i) := by
  have hn1 : ∀ k d, natOf (some (.int k ((n : Nat) : Int))) d = some n := fun _ _ => rfl
  cases h with
  | nil =>
    refine ⟨.slice none 0 0, ?_, .inl .nil, fun h => (by omega), fun i h => h⟩
    unfold sliceA; rw [hu]; simp [natOf, hsz]
  | of i n low l hi hb hl hlen =>
    have hlen' : l.length = n := by omega
    have he : eszIs s i (l.length + 1) 1 = true := by
      unfold eszIs
      split
      · rfl
      · rw [hb]; rfl
    have hle : (Nat.ble 0 n && Nat.ble n n) = true := by simp
    by_cases h0 : n = 0
    · subst h0
      refine ⟨.slice (some ⟨i, 0, none⟩) 0 0, ?_, .inr ⟨rfl, List.eq_nil_of_length_eq_zero hlen', i, 0, rfl⟩, fun h => (by omega), fun j h => h⟩
      unfold sliceA; rw [hu]; simp only [natOf_none, hn1, hsz, hle, if_true, he]; rfl
    · refine ⟨.slice (some ⟨i, 0, none⟩) n (l.length + 1), ?_, .inl (.of i n low l hi hb hl hlen), fun _ => rfl, fun j h => h⟩
      unfold sliceA; rw [hu]
      have hb0 : Nat.beq 0 n = false := by
        rw [← Bool.not_eq_true, Nat.beq_eq]; omega
      simp only [natOf_none, hn1, hsz, hle, if_true, he, hb0]
      simp
section
variable {P : Program} {lib : Prims} {all r : List Oper} {f : AFr} {s : ASt} {d : Option Tmp} {Q : AFr → ASt → Prop}
end
end Go.Cl
