/-
  A law's arguments: bytes, and slices of bytes.
-/
import Derived.Test.YtndlajhkbepafaaTy
import Derived.Test.YtndlajhkbepafaaObjA
set_option linter.unusedSimpArgs false
set_option linter.unusedVariables false
set_option maxRecDepth 100000
namespace Go.Cl
open Go.RowKit Go.ChangeShapes Go.WideShapes
theorem bytes_rowsA {B : List UInt8} {l : List Value} (hl : l.length = B.length) (hq : ∀ i (h : i < B.length), (l.drop (i * 1)).take 1 = [.int .u8 ((B[i]).toNat : Int)]) : l = ofBytes B := by
  refine List.ext_getElem? fun i => ?_
  by_cases hi : i < B.length
  · have h0 : ((l.drop (i * 1)).take 1)[0]? = some (.int .u8 ((B[i]).toNat : Int)) := by rw [hq i hi]; rfl
    rw [List.getElem?_take_of_lt (by omega), List.getElem?_drop, Nat.add_zero, Nat.mul_one] at h0
    rw [h0]; simp [ofBytes, List.getElem?_eq_getElem hi]
  · rw [List.getElem?_eq_none (by omega), List.getElem?_eq_none (by rw [ofBytes_length]; omega)]
/-- Slices of bytes, each seen. -/
structure PiecesA (s : ASt) (vs : List Value) (L : List (List UInt8)) : Prop where
  len : vs.length = L.length
  sees : ∀ k (h : k < L.length), Sees s 1 (vs.getD k undef) (L[k]).length (ofBytes L[k])
theorem PiecesA.keeps {s s' : ASt} {vs : List Value} {L : List (List UInt8)} (h : PiecesA s vs L) (k : Stay s.next s s') : PiecesA s' vs L := ⟨h.len, fun j hj => (h.sees j hj).keeps k⟩
end Go.Cl
namespace Go.Proofs.Ytndlajhkbepafaa
open Go.Cl Go.RowKit Go.ChangeShapes Go.WideShapes
theorem coU8 : Try.prog.cellsOf 5 = 1 := by kernel_rfl
theorem coB : Try.prog.cellsOf 22 = 1 := by kernel_rfl
theorem coB1 : 1 ≤ Try.prog.bytesOf 5 := by rw [show Try.prog.bytesOf 5 = 1 from by kernel_rfl]; decide
theorem coS1 : 1 ≤ Try.prog.bytesOf 22 := by rw [show Try.prog.bytesOf 22 = 24 from by kernel_rfl]; decide
theorem reach_eq : reachBytes = 140737488351232 := by decide
variable {H : Type} {enc : TypeId × Value → H} {W : World}
theorem bytes_openA (fuel : Nat) {S : St} (h : Begun W S) {cs : List Value} {x : DataW H × List MemPlace} (hf : DataW.trod enc Try.prog W 0 (fun _ => true) true fuel 22 cs = some x) (hw : Wt Try.prog 22 x.1) :
    ∃ (S' : St) (v' v : Value) (b : List UInt8), cs = [v] ∧ Grew W S S' ∧ VR S' v' v ∧ Sees S'.s 1 v' b.length (ofBytes b) ∧ b.length ≤ 140737488351232 := by
  obtain ⟨S', v', v, lb, B, e, hg, hv, hs, _, hq, _, hk⟩ := rows_open h (Q := fun _ _ cs (d : UInt8) => cs = [.int .u8 (d.toNat : Int)]) (p := fun _ => True) (fun h _ => h) (fun h _ => h) Try.underlying22 coU8 (by decide) coB1 (fun m _ S hS cs x h _ => by
      obtain ⟨c, e, _, hw⟩ := DataW.trod_int Try.underlying5 h
      obtain ⟨bs, hb1, hb2⟩ := bytes_of (zs := [c]) (by simpa using hw)
      match bs, hb1 with
      | [u], _ =>
        have hb2 : [Value.int .u8 c] = [Value.int .u8 (u.toNat : Int)] := hb2
        exact ⟨S, [.int .u8 c], u, Grew.refl hS, by rw [e]; exact .cons (.int _ _) .nil, rfl, hb2, trivial⟩) hf hw
  rw [reach_eq] at hk
  have hl := hs.length
  rw [Nat.mul_one] at hl
  have hB : lb = ofBytes B := bytes_rowsA hl hq
  subst hB
  exact ⟨S', v', v, B, e, hg, hv, hs, hk⟩
theorem arg_bytes {S : St} (h : Begun W S) {r : Reach} {b0 : Nat} {v : Value} {d : DataW H} {ps : List MemPlace} (hd : DataW.Trod enc Try.prog W 0 (fun _ => true) true 22 v d ps) (hw : Wt Try.prog 22 d) (hval : Value.okWide Try.prog W r b0 22 v) :
    ∃ (S' : St) (v' : Value) (b : List UInt8), Grew W S S' ∧ VR S' v' v ∧ Sees S'.s 1 v' b.length (ofBytes b) ∧ b.length ≤ 140737488351232 := by
  obtain ⟨a, len, cap, rfl⟩ := okWide_slice Try.underlying22 hval
  obtain ⟨fuel, hf⟩ := hd
  obtain ⟨S', v', v, B, e, hg, hv, hs, hk⟩ := bytes_openA fuel h hf hw
  have e' : [Value.slice a len cap] = [v] := e
  injection e' with e'
  subst e'
  exact ⟨S', v', B, hg, hv, hs, hk⟩
theorem arg_bytess {S : St} (h : Begun W S) {r : Reach} {b0 : Nat} {v : Value} {d : DataW H} {ps : List MemPlace} (hd : DataW.Trod enc Try.prog W 0 (fun _ => true) true 44 v d ps) (hw : Wt Try.prog 44 d) (hval : Value.okWide Try.prog W r b0 44 v) :
    ∃ (S' : St) (v' : Value) (vs : List Value) (L : List (List UInt8)), Grew W S S' ∧ VR S' v' v ∧ Sees S'.s 1 v' L.length vs ∧ PiecesA S'.s vs L ∧ L.length ≤ 140737488351232 := by
  obtain ⟨a, len, cap, rfl⟩ := okWide_slice Try.underlying44 hval
  obtain ⟨fuel, hf⟩ := hd
  obtain ⟨S', v', v, lb, L, e, hg, hv, hs, _, hq, _, hk⟩ := rows_open h (Q := fun _ s cs (b : List UInt8) => ∃ w, cs = [w] ∧ Sees s 1 w b.length (ofBytes b)) (p := fun _ => True) (fun ⟨w, h1, h2⟩ k => ⟨w, h1, h2.keeps k⟩) (fun h _ => h) Try.underlying44 coB (by decide) coS1 (fun m _ S hS cs x h hw => by
      obtain ⟨S', v', v, B, e, hg, hv, hs, hk⟩ := bytes_openA m hS h hw
      exact ⟨S', [v'], B, hg, by rw [e]; exact .cons hv .nil, rfl, ⟨v', rfl, hs⟩, trivial⟩) hf hw
  have e' : [Value.slice a len cap] = [v] := e
  injection e' with e'
  subst e'
  rw [reach_eq] at hk
  have hl := hs.length
  rw [Nat.mul_one] at hl
  refine ⟨S', v', lb, L, hg, hv, hs, ⟨hl, fun i hi => ?_⟩, hk⟩
  obtain ⟨w, h1, h2⟩ := hq i hi
  have h0 : ((lb.drop (i * 1)).take 1)[0]? = some w := by rw [h1]; rfl
  rw [List.getElem?_take_of_lt (by omega), List.getElem?_drop, Nat.add_zero, Nat.mul_one] at h0
  rw [List.getD_eq_getElem?_getD, h0]
  exact h2
end Go.Proofs.Ytndlajhkbepafaa
