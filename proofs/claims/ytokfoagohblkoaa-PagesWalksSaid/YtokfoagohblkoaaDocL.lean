import Derived.Test.YtokfoagohblkoaaCosK
import Derived.Test.YtokfoagohblkoaaDocE
set_option linter.unusedSimpArgs false
set_option linter.unusedVariables false
set_option maxRecDepth 100000
namespace Go.Cl
open Go.RowKit Go.ChangeShapes Go.WideShapes
theorem VR.aggL {S : St} {cs ds : List Value} {d : Array Value} (h : VRL S cs ds) (hd : d.toList = ds) : VR S (.agg cs.toArray) (.agg d) := by
 subst hd
 exact .agg _ _ h.1 h.2
end Go.Cl
namespace Go.Proofs.Ytokfoagohblkoaa
open Go.Cl Go.Lib Go.RowKit Go.ChangeShapes Go.WideShapes
variable {H : Type} {enc : TypeId × Value -> H} {W : World}
theorem abl {S : St} (h : xD W S) {r : Reach} {b0 : Nat} {v : Value} {d : DataW H} {ps : List MemPlace} (hval : Value.okWide Try.prog W r b0 31 v) (hd : DataW.Trod enc Try.prog W 0 (fun _ => true) true 31 v d ps) (hw : Wt Try.prog 31 d) :
  ∃ (S' : St) (cs : List Value) (o : O), Grew W S S' ∧ VR S' (.agg cs.toArray) v ∧ OIs (fun _ => True) S'.s cs o ∧ Fit o := by
 obtain ⟨c, rfl, _⟩ := okWide_struct Try.underlying31 hval
 obtain ⟨fuel, hf⟩ := hd
 obtain ⟨S', cs', o, hg, hv, _, ho, hfit⟩ := Ws fuel S h _ _ hf hw
 exact ⟨S', cs', o, hg, .aggL hv rfl, ho.mono (fun _ _ => trivial), hfit⟩
end Go.Proofs.Ytokfoagohblkoaa
set_option linter.unusedSimpArgs false
set_option linter.unusedVariables false
set_option maxRecDepth 100000
namespace Go.Proofs.Ytokfoagohblkoaa
open Go.Cl Go.Lib Go.RowKit Go.ChangeShapes Go.WideShapes
variable {H : Type} {enc : TypeId × Value -> H} {W : World}
theorem coIt : Try.prog.cellsOf 66 = 6 := by kernel_rfl
theorem coIs : Try.prog.cellsOf 32 = 1 := by kernel_rfl
theorem coDc : Try.prog.cellsOf 34 = 9 := by kernel_rfl
theorem coIt1 : 1 ≤ Try.prog.bytesOf 66 := by rw [show Try.prog.bytesOf 66 = 96 from by kernel_rfl]; decide
theorem abm {n : Nat} {S : St} (hS : xD W S) {cs : List Value} {x : DataW H × List MemPlace} (h : DataW.trod enc Try.prog W 0 (fun _ => true) true n 66 cs = some x) (hwt : Wt Try.prog 66 x.1) :
  ∃ S' cs' e, Grew W S S' ∧ VRL S' cs' cs ∧ cs'.length = 6 ∧ ItIs (fun j => j < S'.s.next) S'.s cs' e ∧ Fit e.2 := by
 obtain ⟨xs, m, hm, rfl, hl, hxl, hx⟩ := DataW.trod_struct Try.underlying66 h
 rw [coIt] at hl
 have h0 := hx 0 _ rfl
 have h1 := hx 1 _ rfl
 change DataW.trod enc Try.prog W 0 (fun _ => true) true m 3 ((cs.drop 0).take (Try.prog.cellsOf 3)) = xs[0]? at h0
 change DataW.trod enc Try.prog W 0 (fun _ => true) true m 31 ((cs.drop 1).take (Try.prog.cellsOf 31)) = xs[1]? at h1
 rw [coI] at h0
 rw [coO] at h1
 have hs : xs.length = 2 := hxl
 rw [List.getElem?_eq_getElem (by omega)] at h0 h1
 have w1 : Wt Try.prog 31 (xs[1]).1 := hwt.struct Try.underlying66 (i := 1) rfl (by rw [List.getElem?_map, List.getElem?_eq_getElem (by omega)]; rfl)
 obtain ⟨num, e0, _⟩ := DataW.trod_int Try.underlying3 h0
 obtain ⟨S', cs', o, hg, hv, hol, ho, hfo⟩ := Ws m S hS _ _ h1 w1
 obtain ⟨v0, v1, v2, v3, v4, v5, rfl⟩ : ∃ v0 v1 v2 v3 v4 v5, cs = [v0, v1, v2, v3, v4, v5] := by
  clear h h0 h1 e0
  match cs, hl with
  | [a, b, c, d, e, f], _ => exact ⟨_, _, _, _, _, _, rfl⟩
 simp at e0
 subst e0
 exact ⟨S', .int .i64 num :: cs', (num, o), hg, .cons (.int _ _) hv, by simp [hol], ⟨cs', rfl, ho⟩, hfo⟩
theorem aay {fuel : Nat} {S : St} (hS : xD W S) {cs : List Value} {x : DataW H × List MemPlace} (h : DataW.trod enc Try.prog W 0 (fun _ => true) true fuel 34 cs = some x) (hwt : Wt Try.prog 34 x.1) :
  ∃ S' mv tc iv ic D, Grew W S S' ∧ VRL S' (docC D mv tc iv) cs ∧ ye (fun j => j < S'.s.next) S'.s mv tc iv ic D ∧ FitD D := by
 obtain ⟨xs, n, hn, rfl, hl, hxl, hx⟩ := DataW.trod_struct Try.underlying34 h
 rw [coDc] at hl
 have h0 := hx 0 _ rfl
 have h1 := hx 1 _ rfl
 have h2 := hx 2 _ rfl
 have h3 := hx 3 _ rfl
 have h4 := hx 4 _ rfl
 change DataW.trod enc Try.prog W 0 (fun _ => true) true n 3 ((cs.drop 0).take (Try.prog.cellsOf 3)) = xs[0]? at h0
 change DataW.trod enc Try.prog W 0 (fun _ => true) true n 27 ((cs.drop 1).take (Try.prog.cellsOf 27)) = xs[1]? at h1
 change DataW.trod enc Try.prog W 0 (fun _ => true) true n 3 ((cs.drop 2).take (Try.prog.cellsOf 3)) = xs[2]? at h2
 change DataW.trod enc Try.prog W 0 (fun _ => true) true n 31 ((cs.drop 3).take (Try.prog.cellsOf 31)) = xs[3]? at h3
 change DataW.trod enc Try.prog W 0 (fun _ => true) true n 32 ((cs.drop 8).take (Try.prog.cellsOf 32)) = xs[4]? at h4
 rw [coI] at h0 h2
 rw [coB] at h1
 rw [coO] at h3
 rw [coIs] at h4
 have hs : xs.length = 5 := hxl
 rw [List.getElem?_eq_getElem (by omega)] at h0 h1 h2 h3 h4
 have w1 : Wt Try.prog 27 (xs[1]).1 := hwt.struct Try.underlying34 (i := 1) rfl (by rw [List.getElem?_map, List.getElem?_eq_getElem (by omega)]; rfl)
 have w3 : Wt Try.prog 31 (xs[3]).1 := hwt.struct Try.underlying34 (i := 3) rfl (by rw [List.getElem?_map, List.getElem?_eq_getElem (by omega)]; rfl)
 have w4 : Wt Try.prog 32 (xs[4]).1 := hwt.struct Try.underlying34 (i := 4) rfl (by rw [List.getElem?_map, List.getElem?_eq_getElem (by omega)]; rfl)
 obtain ⟨minor, e0, _⟩ := DataW.trod_int Try.underlying3 h0
 obtain ⟨tail, e2, _⟩ := DataW.trod_int Try.underlying3 h2
 obtain ⟨S1, bv, bw, lb, B, e1, g1, r1, s1, f1, q1, _, k1⟩ := qL hS (Q := fun _ _ cs (d : UInt8) => cs = [.int .u8 (d.toNat : Int)]) (p := fun _ => True) (fun h _ => h) (fun h _ => h) Try.underlying27 coU8 (by decide) coB1 (fun m _ S hS cs x h _ => by
  obtain ⟨c, e, _, hw⟩ := DataW.trod_int Try.underlying5 h
  obtain ⟨bs, hb1, hb2⟩ := Wo (zs := [c]) (by simpa using hw)
  match bs, hb1 with
  | [u], _ =>
   have hb2 : [Value.int .u8 c] = [Value.int .u8 (u.toNat : Int)] := hb2
   exact ⟨S, [.int .u8 c], u, Grew.refl hS, by rw [e]; exact .cons (.int _ _) .nil, rfl, hb2, trivial⟩) h1 w1
 obtain ⟨S2, tc, o, g2, r2, ol, ho, fo⟩ := Ws n S1 g1.begun _ _ h3 w3
 obtain ⟨S3, iv, iw, ic, L, e4, g3, r3, s3, f3, q3, p3, k3⟩ := qL g2.begun (Q := fun F s cs e => ItIs F s cs e) (p := fun e => Fit e.2) (fun h k => jL.keeps h k) (fun h k => jL.mono h k) Try.underlying32 coIt (by decide) coIt1 (fun m _ S hS cs x h hw => abm hS h hw) h4 w4
 rw [Wr, Nat.mul_one] at k1 k3
 have hlb := s1.length
 rw [Nat.mul_one] at hlb
 have hB : lb = zF B := VO hlb q1
 subst hB
 have m13 : ∀ j, j < S1.s.next -> j < S3.s.next := fun j hj => Nat.lt_of_lt_of_le hj (Nat.le_trans g2.stay.next g3.stay.next)
 have m23 : ∀ j, j < S2.s.next -> j < S3.s.next := fun j hj => Nat.lt_of_lt_of_le hj g3.stay.next
 obtain ⟨v0, v1, v2, v3, v4, v5, v6, v7, v8, rfl⟩ : ∃ v0 v1 v2 v3 v4 v5 v6 v7 v8, cs = [v0, v1, v2, v3, v4, v5, v6, v7, v8] := by
  clear h h0 h1 h2 h3 h4 e0 e1 e2 e4 r2
  match cs, hl with
  | [a, b, c, d, e, f, g, h, i], _ => exact ⟨_, _, _, _, _, _, _, _, _, rfl⟩
 have r2 : VRL S2 tc [v3, v4, v5, v6, v7] := r2
 simp at e0 e1 e2 e4
 subst e0; subst e1; subst e2; subst e4
 have rr := (r2.mono g3.ext)
 refine ⟨S3, bv, tc, iv, ic, ⟨minor, B, tail, o, L⟩, (g1.trans g2).trans g3, .cons (.int _ _) (.cons ((r1.mono g2.ext).mono g3.ext) (.cons (.int _ _) ?_)), ⟨(s1.keeps g2.stay).keeps g3.stay, f1.mono m13, (ho.keeps g3.stay).mono m23, s3, f3, ⟨s3.length, q3⟩⟩, ⟨k1, fo, k3, p3⟩⟩
 exact rr.append (.cons r3 .nil)
theorem abn {S : St} (h : xD W S) {r : Reach} {b0 : Nat} {v : Value} {d : DataW H} {ps : List MemPlace} (hval : Value.okWide Try.prog W r b0 34 v) (hd : DataW.Trod enc Try.prog W 0 (fun _ => true) true 34 v d ps) (hw : Wt Try.prog 34 d) :
  ∃ (S' : St) (mv : Value) (tc : List Value) (iv : Value) (ic : List Value) (D : Dc), Grew W S S' ∧ VR S' (.agg (docC D mv tc iv).toArray) v ∧ ye (fun _ => True) S'.s mv tc iv ic D ∧ FitD D := by
 obtain ⟨c, rfl, _⟩ := okWide_struct Try.underlying34 hval
 obtain ⟨fuel, hf⟩ := hd
 obtain ⟨S', mv, tc, iv, ic, D, hg, hv, hD, hfit⟩ := aay h hf hw
 exact ⟨S', mv, tc, iv, ic, D, hg, .aggL hv rfl, hD.mono (fun _ _ => trivial), hfit⟩
end Go.Proofs.Ytokfoagohblkoaa
