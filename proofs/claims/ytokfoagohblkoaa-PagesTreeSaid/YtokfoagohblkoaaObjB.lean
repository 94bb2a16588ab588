/-
  A law's argument that is an object, or a slice of whatever stands in rows of cells: the start state it makes.
-/
import Derived.Test.YtokfoagohblkoaaObj
import Derived.Test.YtokfoagohblkoaaTy
namespace Go.Cl
open Go.RowKit Go.ChangeShapes Go.WideShapes
structure Grew (W : World) (S S' : St) : Prop where
  begun : Begun W S'
  ext : Ext S S'
  stay : Stay S.s.next S.s S'.s
theorem Grew.refl {W : World} {S : St} (h : Begun W S) : Grew W S S := ⟨h, Ext.refl S, Stay.refl _ _⟩
theorem Grew.trans {W : World} {S S' S'' : St} (h : Grew W S S') (k : Grew W S' S'') : Grew W S S'' := ⟨k.begun, h.ext.trans k.ext, h.stay.trans (k.stay.weaken h.stay.next)⟩
variable {H : Type} {enc : TypeId × Value → H} {P : Program}
def Wt (P : Program) (t : TypeId) (d : DataW H) : Prop := ∀ n ∈ d.weights P t, n ≤ reachBytes
theorem weightsAll_mem {e : TypeId} : ∀ {ds : List (DataW H)} {d : DataW H}, d ∈ ds → ∀ n ∈ d.weights P e, n ∈ DataW.weightsAll P e ds
  | _ :: _, d, hd, n, hn => by
    rw [DataW.weightsAll, List.mem_append]
    rcases List.mem_cons.1 hd with h | h
    · subst h; exact .inl hn
    · exact .inr (weightsAll_mem h n hn)
theorem Wt.slice {t e : TypeId} (ht : P.underlying t = some (.slice e)) {E R : List (DataW H)} (h : Wt P t (.slice E R)) : (E.length + R.length) * P.bytesOf e ≤ reachBytes ∧ ∀ d ∈ E, Wt P e d := by
  refine ⟨h _ (by simp [DataW.weights, ht]), fun d hd n hn => h n ?_⟩
  simp only [DataW.weights, ht, List.mem_cons, List.mem_append]
  exact .inr (.inl (weightsAll_mem hd n hn))
theorem Wt.struct {t : TypeId} {fs : Array Field} (ht : P.underlying t = some (.struct fs)) {xs : List (DataW H)} (h : Wt P t (.agg xs)) {i : Nat} {u : TypeId} {d : DataW H} (hu : (fs.toList.map (·.type))[i]? = some u) (hd : xs[i]? = some d) : Wt P u d := by
  intro n hn
  refine h n ?_
  simp only [DataW.weights, ht]
  exact DataW.weights_mem_each hu hd n hn
end Go.Cl
set_option linter.unusedSimpArgs false
set_option linter.unusedVariables false
set_option maxRecDepth 100000
namespace Go.Cl
theorem chunk6 {lc r : List Value} {i : Nat} {a : Value} (h : (lc.drop (i * 6)).take 6 = a :: r) : lc.getD (i * 6) undef = a ∧ (lc.drop (i * 6 + 1)).take 5 = r := by
  constructor
  · have h0 : ((lc.drop (i * 6)).take 6)[0]? = some a := by rw [h]; rfl
    rw [List.getElem?_take_of_lt (by omega), List.getElem?_drop, Nat.add_zero] at h0
    rw [List.getD_eq_getElem?_getD, h0]; rfl
  · have h1 : ((lc.drop (i * 6)).take 6).drop 1 = r := by rw [h]; rfl
    rw [List.drop_take, List.drop_drop] at h1
    exact h1
end Go.Cl
namespace Go.Proofs.Ytokfoagohblkoaa
open Go.Cl
variable {H : Type} {enc : TypeId × Value → H} {W : World}
end Go.Proofs.Ytokfoagohblkoaa
