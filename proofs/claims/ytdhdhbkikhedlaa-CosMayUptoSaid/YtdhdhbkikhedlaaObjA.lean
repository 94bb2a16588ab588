/-
  A law's argument that is an object, or a slice of whatever stands in rows of cells: the start state it makes.
-/
import Derived.Test.YtdhdhbkikhedlaaObj
namespace Go.Cl
open Go.RowKit Go.ChangeShapes Go.WideShapes
structure Grew (W : World) (S S' : St) : Prop where
  begun : Begun W S'
  ext : Ext S S'
  stay : Stay S.s.next S.s S'.s
theorem Grew.refl {W : World} {S : St} (h : Begun W S) : Grew W S S := ⟨h, Ext.refl S, Stay.refl _ _⟩
theorem Grew.trans {W : World} {S S' S'' : St} (h : Grew W S S') (k : Grew W S' S'') : Grew W S S'' := ⟨k.begun, h.ext.trans k.ext, h.stay.trans (k.stay.weaken h.stay.next)⟩
variable {H : Type} {enc : TypeId × Value → H} {P : Program}
theorem take_chunk {z : Nat} (l m : List Value) (i : Nat) (h : (i + 1) * z ≤ l.length) : ((l ++ m).drop (i * z)).take z = (l.drop (i * z)).take z := by
  rw [Nat.succ_mul] at h
  rw [List.drop_append_of_le_length (by omega), List.take_append_of_le_length (by rw [List.length_drop]; omega)]
def Wt (P : Program) (t : TypeId) (d : DataW H) : Prop := ∀ n ∈ d.weights P t, n ≤ reachBytes
theorem weightsAll_mem {e : TypeId} : ∀ {ds : List (DataW H)} {d : DataW H}, d ∈ ds → ∀ n ∈ d.weights P e, n ∈ DataW.weightsAll P e ds
  | _ :: _, d, hd, n, hn => by
    rw [DataW.weightsAll, List.mem_append]
    rcases List.mem_cons.1 hd with h | h
    · subst h; exact .inl hn
    · exact .inr (weightsAll_mem h n hn)
theorem Wt.slice {t e : TypeId} (ht : P.underlying t = some (.slice e)) {E R : List (DataW H)} (h : Wt P t (.slice E R)) : (E.length + R.length) * P.bytesOf e ≤ reachBytes ∧ ∀ d ∈ E, Wt P e d := by
  refine ⟨h _ (by simp [DataW.weights, ht]), fun d hd n hn => h n ?_⟩
  simp only [DataW.weights, ht, List.mem_cons, List.mem_append]
  exact .inr (.inl (weightsAll_mem hd n hn))
theorem Wt.struct {t : TypeId} {fs : Array Field} (ht : P.underlying t = some (.struct fs)) {xs : List (DataW H)} (h : Wt P t (.agg xs)) {i : Nat} {u : TypeId} {d : DataW H} (hu : (fs.toList.map (·.type))[i]? = some u) (hd : xs[i]? = some d) : Wt P u d := by
  intro n hn
  refine h n ?_
  simp only [DataW.weights, ht]
  exact DataW.weights_mem_each hu hd n hn
end Go.Cl
