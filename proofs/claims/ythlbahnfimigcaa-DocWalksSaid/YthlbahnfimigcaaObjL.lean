/-
  Objects: a law's arguments.
-/
import Derived.Test.YthlbahnfimigcaaCosK
set_option linter.unusedSimpArgs false
set_option linter.unusedVariables false
namespace Go.Cl
open Go.RowKit Go.ChangeShapes Go.WideShapes
theorem VR.aggL {S : St} {cs ds : List Value} {d : Array Value} (h : VRL S cs ds) (hd : d.toList = ds) : VR S (.agg cs.toArray) (.agg d) := by
  subst hd
  exact .agg _ _ h.1 h.2
theorem Runs.calls0 {P : Program} (hp : progOk P [] = true) {g : FuncId} {args : List Value} {S : St} {W : World} (hB : Begun W S) (hr : Runs P [] g args S.s fun v _ => v = .bool true) {args' : Array Value} (hv : VRL S args args'.toList) :
    Calls P g args' W fun e w' => e = .returned (.bool true) ∧ Below W.heap.size W w' := Runs.calls hp hB hr hv
end Go.Cl
namespace Go.Proofs.Ythlbahnfimigcaa
open Go.Cl Go.Lib Go.RowKit Go.ChangeShapes Go.WideShapes
variable {H : Type} {enc : TypeId × Value → H} {W : World}
theorem arg_obj {S : St} (h : Begun W S) {r : Reach} {b0 : Nat} {v : Value} {d : DataW H} {ps : List MemPlace} (hval : Value.okWide Try.prog W r b0 26 v) (hd : DataW.Trod enc Try.prog W 0 (fun _ => true) true 26 v d ps) (hw : Wt Try.prog 26 d) :
    ∃ (S' : St) (cs : List Value) (o : O), Grew W S S' ∧ VR S' (.agg cs.toArray) v ∧ OIs (fun _ => True) S'.s cs o ∧ Fit o := by
  obtain ⟨c, rfl, _⟩ := okWide_struct Try.underlying26 hval
  obtain ⟨fuel, hf⟩ := hd
  obtain ⟨S', cs', o, hg, hv, _, ho, hfit⟩ := obj_open fuel S h _ _ hf hw
  exact ⟨S', cs', o, hg, .aggL hv rfl, ho.mono (fun _ _ => trivial), hfit⟩
theorem arg_ents {S : St} (h : Begun W S) {r : Reach} {b0 : Nat} {v : Value} {d : DataW H} {ps : List MemPlace} (hd : DataW.Trod enc Try.prog W 0 (fun _ => true) true 24 v d ps) (hw : Wt Try.prog 24 d) (hval : Value.okWide Try.prog W r b0 24 v) :
    ∃ (S' : St) (v' : Value) (lc : List Value) (D : List (List UInt8 × O)), Grew W S S' ∧ VR S' v' v ∧ Sees S'.s 6 v' D.length lc ∧ ORows EntIs 6 (fun _ => True) S'.s D lc ∧ (∀ e ∈ D, FitE e) ∧ D.length ≤ 140737488351232 := by
  obtain ⟨a, len, cap, rfl⟩ := okWide_slice Try.underlying24 hval
  obtain ⟨fuel, hf⟩ := hd
  obtain ⟨S', v', v, lc, D, e, hg, hv, hs, _, hq, hp, hk⟩ := rows_open h (Q := fun F s cs e => EntIs F s cs e) (p := FitE) (fun h k => h.keeps k) (fun h k => h.mono k) Try.underlying24 coE (by decide) coE1 (fun m _ S hS cs x h hw => ent_of (fun m' _ => obj_open m') hS h hw) hf hw
  have e' : [Value.slice a len cap] = [v] := e
  injection e' with e'
  subst e'
  rw [reach_eq] at hk
  exact ⟨S', v', lc, D, hg, hv, hs, ⟨hs.length, fun i hi => (hq i hi).mono (fun _ _ => trivial)⟩, hp, hk⟩
theorem arg_bytes {S : St} (h : Begun W S) {r : Reach} {b0 : Nat} {v : Value} {d : DataW H} {ps : List MemPlace} (hd : DataW.Trod enc Try.prog W 0 (fun _ => true) true 22 v d ps) (hw : Wt Try.prog 22 d) (hval : Value.okWide Try.prog W r b0 22 v) :
    ∃ (S' : St) (v' : Value) (b : List UInt8), Grew W S S' ∧ VR S' v' v ∧ Sees S'.s 1 v' b.length (ofBytes b) ∧ b.length ≤ 140737488351232 := by
  obtain ⟨a, len, cap, rfl⟩ := okWide_slice Try.underlying22 hval
  obtain ⟨fuel, hf⟩ := hd
  obtain ⟨S', v', v, lb, B, e, hg, hv, hs, _, hq, _, hk⟩ := rows_open h (Q := fun _ _ cs (d : UInt8) => cs = [.int .u8 (d.toNat : Int)]) (p := fun _ => True) (fun h _ => h) (fun h _ => h) Try.underlying22 coU8 (by decide) coB1 (fun m _ S hS cs x h _ => by
      obtain ⟨c, e, _, hw⟩ := DataW.trod_int Try.underlying5 h
      obtain ⟨bs, hb1, hb2⟩ := bytes_of (zs := [c]) (by simpa using hw)
      match bs, hb1 with
      | [u], _ =>
        have hb2 : [Value.int .u8 c] = [Value.int .u8 (u.toNat : Int)] := hb2
        exact ⟨S, [.int .u8 c], u, Grew.refl hS, by rw [e]; exact .cons (.int _ _) .nil, rfl, hb2, trivial⟩) hf hw
  have e' : [Value.slice a len cap] = [v] := e
  injection e' with e'
  subst e'
  rw [reach_eq] at hk
  have hl := hs.length
  rw [Nat.mul_one] at hl
  have hB : lb = ofBytes B := bytes_rows hl hq
  subst hB
  exact ⟨S', v', B, hg, hv, hs, hk⟩
theorem coStr1 : 1 ≤ Try.prog.bytesOf 9 := by rw [show Try.prog.bytesOf 9 = 16 from by kernel_rfl]; decide
theorem arg_strs {S : St} (h : Begun W S) {r : Reach} {b0 : Nat} {v : Value} {d : DataW H} {ps : List MemPlace} (hd : DataW.Trod enc Try.prog W 0 (fun _ => true) true 40 v d ps) (hw : Wt Try.prog 40 d) (hval : Value.okWide Try.prog W r b0 40 v) :
    ∃ (S' : St) (v' : Value) (K : List (List UInt8)), Grew W S S' ∧ VR S' v' v ∧ Sees S'.s 1 v' K.length (Cl.strs K) ∧ (∀ k ∈ K, k.length ≤ 140737488351232) ∧ K.length ≤ 140737488351232 := by
  obtain ⟨a, len, cap, rfl⟩ := okWide_slice Try.underlying40 hval
  obtain ⟨fuel, hf⟩ := hd
  obtain ⟨S', v', v, lb, K, e, hg, hv, hs, _, hq, hp, hk⟩ := rows_open h (Q := fun _ _ cs (k : List UInt8) => cs = [.string ⟨k.toArray⟩]) (p := fun k => k.length ≤ reachBytes) (fun h _ => h) (fun h _ => h) Try.underlying40 coS (by decide) coStr1 (fun m _ S hS cs x h hw => by
      obtain ⟨c, e, ec, _⟩ := DataW.trod_string Try.underlying9 h
      rw [ec] at hw
      have w0 := hw c.data.toList.length (by simp [DataW.weights])
      exact ⟨S, [.string c], c.data.toList, Grew.refl hS, by rw [e]; exact .cons (.string _) .nil, rfl, by cases c; simp, w0⟩) hf hw
  have e' : [Value.slice a len cap] = [v] := e
  injection e' with e'
  subst e'
  rw [reach_eq] at hk
  have hl := hs.length
  rw [Nat.mul_one] at hl
  have hB : lb = Cl.strs K := by
    refine List.ext_getElem? fun i => ?_
    by_cases hi : i < K.length
    · have h0 : ((lb.drop (i * 1)).take 1)[0]? = some (.string ⟨(K[i]).toArray⟩) := by rw [hq i hi]; rfl
      rw [List.getElem?_take_of_lt (by omega), List.getElem?_drop, Nat.add_zero, Nat.mul_one] at h0
      rw [h0]; simp [Cl.strs, List.getElem?_eq_getElem hi]
    · rw [List.getElem?_eq_none (by omega), List.getElem?_eq_none (by simp [Cl.strs]; omega)]
  subst hB
  exact ⟨S', v', K, hg, hv, hs, (fun k hk => by have := hp k hk; rwa [reach_eq] at this), hk⟩
end Go.Proofs.Ythlbahnfimigcaa
