/-
 The clean machine: copy into what is one's own; append of so many noughts; a slice cut to its length.
-/
import Derived.Test.YthlbahnfimigcaaAgg
namespace Go.Cl
def Room (s : ASt) (v : Value) (n : Nat) (l : List Value) : Prop := Own s 1 v n l ∨ (n = 0 ∧ l = [] ∧ ∃ i off, v = .slice (some ⟨i, off, none⟩) 0 0)
theorem Own.room {s : ASt} {v : Value} {n : Nat} {l : List Value} (h : Own s 1 v n l) : Room s v n l := .inl h
theorem Room.sees {s : ASt} {v : Value} {n : Nat} {l : List Value} (h : Room s v n l) : Sees s 1 v n l := by
 rcases h with h | ⟨rfl, rfl, i, off, rfl⟩
 ·exact h.sees
 ·exact .bare i off
theorem Room.own {s : ASt} {v : Value} {n : Nat} {l : List Value} (h : Room s v n l) (hn : 0 < n) : Own s 1 v n l := by
 rcases h with h | ⟨h, _⟩
 ·exact h
 ·omega
theorem Room.keeps {s s' : ASt} {v : Value} {n : Nat} {l : List Value} (h : Room s v n l) (k : Stay s.next s s') : Room s' v n l := by
 rcases h with h | h
 ·exact .inl (h.keeps k)
 ·exact .inr h
theorem Sees.cutSrc {s : ASt} {y : Value} {m : Nat} {new : List Value} (h : Sees s 1 y m new) (r : Nat) : ∃ y2, Cl.cutSrc r y = some (min m r, y2) ∧ srcCells s 1 y2 = some (min m r, new.take (min m r)) := by
 have hl := h.length
 have hcut := (h.cut (lo := 0) (hi := min m r) (by omega) (by omega)).src
 rw [Nat.zero_mul, List.drop_zero, Nat.sub_zero, Nat.mul_one] at hcut
 cases h with
 | nil => exact ⟨.slice none (min 0 r) 0, rfl, by simpa [cutS] using hcut⟩
 | bare i off => exact ⟨.slice (some ⟨i, off, none⟩) (min 0 r) 0, rfl, by simpa [cutS] using hcut⟩
 | of i off n c b l hi hb hz hl hc hlen hoff ht => exact ⟨.slice (some ⟨i, off, none⟩) (min m r) c, rfl, by simpa [cutS] using hcut⟩
theorem Room.slice {P : Program} {t e : TypeId} (hu : P.underlying t = some (.slice e)) (hsz : sizeB P e = some 1) {s : ASt} {v : Value} {n : Nat} {l : List Value} (h : Room s v n l) {k : IntKind} {x : Int} (h0 : 0 ≤ x) (h2 : x ≤ n) : sliceA P s t v (some (.int k x)) none none = some (cutS 1 v x.toNat n) := h.sees.sliceLow hu hsz h0 h2
section
variable {P : Program} {lib : Prims} {all r : List Oper} {f : AFr} {s : ASt} {d : Option Tmp} {Q : AFr -> ASt -> Prop}
end
theorem Runs.prim {P : Program} {lib : Prims} {g : FuncId} {p : Prim} (h : lib.at g = some p) (hf : PrimFr p) {args : List Value} {s s' : ASt} {v : Value} {Q : Value -> ASt -> Prop} (hp : p args s = some (v, s')) (hq : Q v s') : Runs P lib g args s Q := by
 intro hw
 obtain ⟨_, _, _, hk⟩ := hf s s (fun _ => none) args v s' (Adds.refl s) hw hp
 refine ⟨v, s', ⟨0, fun m _ => ?_⟩, hk, hq⟩
 simp only [acall, callStep, h, hp]
end Go.Cl