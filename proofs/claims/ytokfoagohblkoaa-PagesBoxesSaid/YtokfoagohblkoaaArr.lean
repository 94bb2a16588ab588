/-
  A law's argument that is an array of whole numbers.
-/
import Derived.Test.YtokfoagohblkoaaRecs
namespace Go.Cl
open Go.RowKit Go.ChangeShapes Go.WideShapes
theorem open_arr {H : Type} {enc : TypeId × Value → H} {P : Program} {w : World} {base : Nat} {sp : Nat → Bool} {held : Bool} {r : Reach} {b0 : Nat} {t e : TypeId} {n : Nat} {k : IntKind} {v : Value} {d : DataW H} {ps : List MemPlace} (ht : P.underlying t = some (.array n e)) (he : P.underlying e = some (.int k)) (hc : P.cellsOf e = 1) (hct : P.cellsOf t = n)
    (hval : Value.okWide P w r b0 t v) (hd : DataW.Trod enc P w base sp held t v d ps) : ∃ ns : List Int, v = .agg (ns.map (Value.int k)).toArray ∧ ns.length = n ∧ ∀ x ∈ ns, (Lit.int k x).wf = true := by
  simp only [Value.okWide, ht] at hval
  obtain ⟨cs, rfl, hsz, _⟩ := hval
  obtain ⟨fuel, hf⟩ := hd
  obtain ⟨xs, m, _, _, hl, hxl, hx⟩ := DataW.trod_array ht hf
  have hl : cs.toList.length = n := hl.trans hct
  obtain ⟨D, hD1, hD2⟩ := list_of (α := Int) (q := fun i a => cs.toList[i]? = some (.int k a) ∧ (Lit.int k a).wf = true) n (fun i hi => by
    have h := hx i hi
    rw [hc, List.getElem?_eq_getElem (by omega), Nat.mul_one] at h
    obtain ⟨a, ha, _, hw⟩ := DataW.trod_int he h
    refine ⟨a, ?_, hw⟩
    have h0 : (((Value.agg cs).cells.toList.drop i).take 1)[0]? = some (.int k a) := by rw [ha]; rfl
    rw [List.getElem?_take_of_lt (by omega), List.getElem?_drop, Nat.add_zero] at h0
    exact h0)
  refine ⟨D, ?_, hD1, fun x hx => ?_⟩
  · congr 1
    apply Array.toList_inj.mp
    refine List.ext_getElem? fun i => ?_
    by_cases hi : i < n
    · obtain ⟨a, h1, h2, _⟩ := hD2 i hi
      rw [h2, List.getElem?_map, h1]; rfl
    · rw [List.getElem?_eq_none (by omega), List.getElem?_eq_none (by simp; omega)]
  · obtain ⟨i, hi, e⟩ := List.getElem_of_mem hx
    obtain ⟨a, h1, _, h3⟩ := hD2 i (by omega)
    rw [List.getElem?_eq_getElem hi, e] at h1
    injection h1 with h1
    rw [h1]; exact h3
theorem VR.arr (S : St) (k : IntKind) (ns : List Int) : VR S (.agg (ns.map (Value.int k)).toArray) (.agg (ns.map (Value.int k)).toArray) := by
  refine .agg _ _ rfl fun i hi => ?_
  have hi : i < ns.length := by simpa using hi
  simp only [List.getD_eq_getElem?_getD]
  rw [List.getElem?_map, List.getElem?_eq_getElem hi]
  exact .int _ _
end Go.Cl
