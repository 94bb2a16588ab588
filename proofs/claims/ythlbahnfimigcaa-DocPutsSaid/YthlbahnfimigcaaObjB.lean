import Derived.Test.YthlbahnfimigcaaTy
import Derived.Test.YthlbahnfimigcaaObjA
set_option linter.unusedSimpArgs false
set_option linter.unusedVariables false
set_option maxRecDepth 100000
namespace Go.Cl
theorem chunk6 {lc r : List Value} {i : Nat} {a : Value} (h : (lc.drop (i * 6)).take 6 = a :: r) : lc.getD (i * 6) undef = a ∧ (lc.drop (i * 6 + 1)).take 5 = r := by
 constructor
 ·have h0 : ((lc.drop (i * 6)).take 6)[0]? = some a := by rw [h]; rfl
  rw [List.getElem?_take_of_lt (by omega), List.getElem?_drop, Nat.add_zero] at h0
  rw [List.getD_eq_getElem?_getD, h0]; rfl
 ·have h1 : ((lc.drop (i * 6)).take 6).drop 1 = r := by rw [h]; rfl
  rw [List.drop_take, List.drop_drop] at h1
  exact h1
theorem bytes_rows {lc : List Value} {D : List UInt8} (hl : lc.length = D.length) (h : ∀ i (h : i < D.length), (lc.drop (i * 1)).take 1 = [.int .u8 ((D[i]).toNat : Int)]) : lc = ofBytes D := by
 refine List.ext_getElem? fun i => ?_
 by_cases hi : i < D.length
 ·have h0 : ((lc.drop (i * 1)).take 1)[0]? = some (.int .u8 ((D[i]).toNat : Int)) := by rw [h i hi]; rfl
  rw [List.getElem?_take_of_lt (by omega), List.getElem?_drop, Nat.add_zero, Nat.mul_one] at h0
  rw [h0]; simp [ofBytes, List.getElem?_eq_getElem hi]
 ·rw [List.getElem?_eq_none (by omega), List.getElem?_eq_none (by rw [ofBytes_length]; omega)]
end Go.Cl
namespace Go.Proofs.Ythlbahnfimigcaa
open Go.Cl
theorem coO : Try.prog.cellsOf 26 = 5 := by kernel_rfl
theorem coE : Try.prog.cellsOf 51 = 6 := by kernel_rfl
theorem coI : Try.prog.cellsOf 3 = 1 := by kernel_rfl
theorem coI64 : Try.prog.cellsOf 2 = 1 := by kernel_rfl
theorem coU8 : Try.prog.cellsOf 5 = 1 := by kernel_rfl
theorem coS : Try.prog.cellsOf 9 = 1 := by kernel_rfl
theorem coB : Try.prog.cellsOf 22 = 1 := by kernel_rfl
theorem coL : Try.prog.cellsOf 23 = 1 := by kernel_rfl
theorem coD : Try.prog.cellsOf 24 = 1 := by kernel_rfl
variable {H : Type} {enc : TypeId × Value -> H} {W : World}
theorem coB1 : 1 ≤ Try.prog.bytesOf 5 := by rw [show Try.prog.bytesOf 5 = 1 from by kernel_rfl]; decide
theorem coO1 : 88 ≤ Try.prog.bytesOf 26 := by rw [show Try.prog.bytesOf 26 = 88 from by kernel_rfl]; decide
theorem coE1 : 104 ≤ Try.prog.bytesOf 51 := by rw [show Try.prog.bytesOf 51 = 104 from by kernel_rfl]; decide
theorem reach_eq : reachBytes = 140737488351232 := by decide
def FitE (e : List UInt8 × O) : Prop := e.1.length ≤ 140737488351232 ∧ Fit e.2
theorem ent_of {n : Nat} (ih : ∀ m, m < n -> ∀ S : St, Begun W S -> ∀ cs x, DataW.trod enc Try.prog W 0 (fun _ => true) true m 26 cs = some x -> Wt Try.prog 26 x.1 -> ∃ S' cs' o, Grew W S S' ∧ VRL S' cs' cs ∧ cs'.length = 5 ∧ OIs (fun j => j < S'.s.next) S'.s cs' o ∧ Fit o)
  {S : St} (hS : Begun W S) {cs : List Value} {x : DataW H × List MemPlace} (h : DataW.trod enc Try.prog W 0 (fun _ => true) true n 51 cs = some x) (hwt : Wt Try.prog 51 x.1) :
  ∃ S' cs' e, Grew W S S' ∧ VRL S' cs' cs ∧ cs'.length = 6 ∧ EntIs (fun j => j < S'.s.next) S'.s cs' e ∧ FitE e := by
 obtain ⟨xs, m, hm, rfl, hl, hxl, hx⟩ := DataW.trod_struct Try.underlying51 h
 rw [coE] at hl
 have h0 := hx 0 _ rfl
 have h1 := hx 1 _ rfl
 change DataW.trod enc Try.prog W 0 (fun _ => true) true m 9 ((cs.drop 0).take (Try.prog.cellsOf 9)) = xs[0]? at h0
 change DataW.trod enc Try.prog W 0 (fun _ => true) true m 26 ((cs.drop 1).take (Try.prog.cellsOf 26)) = xs[1]? at h1
 rw [coS] at h0
 rw [coO] at h1
 have hs : xs.length = 2 := hxl
 rw [List.getElem?_eq_getElem (by omega)] at h0 h1
 have w0 : Wt Try.prog 9 (xs[0]).1 := hwt.struct Try.underlying51 (i := 0) rfl (by rw [List.getElem?_map, List.getElem?_eq_getElem (by omega)]; rfl)
 have w1 : Wt Try.prog 26 (xs[1]).1 := hwt.struct Try.underlying51 (i := 1) rfl (by rw [List.getElem?_map, List.getElem?_eq_getElem (by omega)]; rfl)
 obtain ⟨c, e0, ec, hcl⟩ := DataW.trod_string Try.underlying9 h0
 rw [ec] at w0
 have w0 := w0 c.data.toList.length (by simp [DataW.weights])
 rw [reach_eq] at w0
 obtain ⟨S', cs', o, hg, hv, hol, ho, hfo⟩ := ih m (by omega) S hS _ _ h1 w1
 obtain ⟨v0, v1, v2, v3, v4, v5, rfl⟩ : ∃ v0 v1 v2 v3 v4 v5, cs = [v0, v1, v2, v3, v4, v5] := by
  clear h h0 h1 e0
  match cs, hl with
  | [a, b, c, d, e, f], _ => exact ⟨_, _, _, _, _, _, rfl⟩
 ·simp at e0
  subst e0
  have hm : maxLen = 9223372036854775807 := by decide
  refine ⟨S', .string c :: cs', (c.data.toList, o), hg, .cons (.string _) hv, by simp [hol], ⟨cs', ?_, ho, ?_⟩, w0, hfo⟩
  ·cases c; simp
  ·show c.data.toList.length ≤ _
   have : c.data.toList.length = c.size := by rw [Array.length_toList]; rfl
   omega
theorem obj_open : ∀ (fuel : Nat) (S : St), Begun W S -> ∀ cs x, DataW.trod enc Try.prog W 0 (fun _ => true) true fuel 26 cs = some x -> Wt Try.prog 26 x.1 -> ∃ S' cs' o, Grew W S S' ∧ VRL S' cs' cs ∧ cs'.length = 5 ∧ OIs (fun j => j < S'.s.next) S'.s cs' o ∧ Fit o := by
 intro fuel
 induction fuel using Nat.strongRecOn with
 | _ fuel ih =>
  intro S hS cs x h hwt
  obtain ⟨xs, n, hn, rfl, hl, hxl, hx⟩ := DataW.trod_struct Try.underlying26 h
  rw [coO] at hl
  have h0 := hx 0 _ rfl
  have h1 := hx 1 _ rfl
  have h2 := hx 2 _ rfl
  have h3 := hx 3 _ rfl
  have h4 := hx 4 _ rfl
  change DataW.trod enc Try.prog W 0 (fun _ => true) true n 3 ((cs.drop 0).take (Try.prog.cellsOf 3)) = xs[0]? at h0
  change DataW.trod enc Try.prog W 0 (fun _ => true) true n 2 ((cs.drop 1).take (Try.prog.cellsOf 2)) = xs[1]? at h1
  change DataW.trod enc Try.prog W 0 (fun _ => true) true n 22 ((cs.drop 2).take (Try.prog.cellsOf 22)) = xs[2]? at h2
  change DataW.trod enc Try.prog W 0 (fun _ => true) true n 23 ((cs.drop 3).take (Try.prog.cellsOf 23)) = xs[3]? at h3
  change DataW.trod enc Try.prog W 0 (fun _ => true) true n 24 ((cs.drop 4).take (Try.prog.cellsOf 24)) = xs[4]? at h4
  rw [coI] at h0
  rw [coI64] at h1
  rw [coB] at h2
  rw [coL] at h3
  rw [coD] at h4
  have hs : xs.length = 5 := hxl
  rw [List.getElem?_eq_getElem (by omega)] at h0 h1 h2 h3 h4
  have w2 : Wt Try.prog 22 (xs[2]).1 := hwt.struct Try.underlying26 (i := 2) rfl (by rw [List.getElem?_map, List.getElem?_eq_getElem (by omega)]; rfl)
  have w3 : Wt Try.prog 23 (xs[3]).1 := hwt.struct Try.underlying26 (i := 3) rfl (by rw [List.getElem?_map, List.getElem?_eq_getElem (by omega)]; rfl)
  have w4 : Wt Try.prog 24 (xs[4]).1 := hwt.struct Try.underlying26 (i := 4) rfl (by rw [List.getElem?_map, List.getElem?_eq_getElem (by omega)]; rfl)
  obtain ⟨kind, e0, _⟩ := DataW.trod_int Try.underlying3 h0
  obtain ⟨num, e1, _⟩ := DataW.trod_int Try.underlying2 h1
  obtain ⟨S1, bv, bw, lb, B, e2, g1, r1, s1, f1, q1, _, k1⟩ := rows_open hS (Q := fun _ _ cs (d : UInt8) => cs = [.int .u8 (d.toNat : Int)]) (p := fun _ => True) (fun h _ => h) (fun h _ => h) Try.underlying22 coU8 (by decide) coB1 (fun m _ S hS cs x h _ => by
   obtain ⟨c, e, _, hw⟩ := DataW.trod_int Try.underlying5 h
   obtain ⟨bs, hb1, hb2⟩ := bytes_of (zs := [c]) (by simpa using hw)
   match bs, hb1 with
   | [u], _ =>
    have hb2 : [Value.int .u8 c] = [Value.int .u8 (u.toNat : Int)] := hb2
    exact ⟨S, [.int .u8 c], u, Grew.refl hS, by rw [e]; exact .cons (.int _ _) .nil, rfl, hb2, trivial⟩) h2 w2
  obtain ⟨S2, lv, lw, lc, L, e3, g2, r2, s2, f2, q2, p2, k2⟩ := rows_open g1.begun (Q := fun F s cs o => OIs F s cs o) (p := Fit) (fun h k => h.keeps k) (fun h k => h.mono k) Try.underlying23 coO (by decide) coO1 (fun m hm S hS cs x h hw => ih m (by omega) S hS cs x h hw) h3 w3
  obtain ⟨S3, dv, dw, dc, D, e4, g3, r3, s3, f3, q3, p3, k3⟩ := rows_open g2.begun (Q := fun F s cs e => EntIs F s cs e) (p := FitE) (fun h k => h.keeps k) (fun h k => h.mono k) Try.underlying24 coE (by decide) coE1 (fun m hm S hS cs x h hw => ent_of (fun m' hm' => ih m' (by omega)) hS h hw) h4 w4
  rw [reach_eq] at k1 k2 k3
  rw [Nat.mul_one] at k1
  have hlb := s1.length
  rw [Nat.mul_one] at hlb
  have hB : lb = ofBytes B := bytes_rows hlb q1
  subst hB
  have m12 : ∀ j, j < S1.s.next -> j < S3.s.next := fun j hj => Nat.lt_of_lt_of_le hj (Nat.le_trans g2.stay.next g3.stay.next)
  have m23 : ∀ j, j < S2.s.next -> j < S3.s.next := fun j hj => Nat.lt_of_lt_of_le hj g3.stay.next
  obtain ⟨v0, v1, v2, v3, v4, rfl⟩ : ∃ v0 v1 v2 v3 v4, cs = [v0, v1, v2, v3, v4] := by
   clear h h0 h1 h2 h3 h4 e0 e1 e2 e3 e4
   match cs, hl with
   | [a, b, c, d, e], _ => exact ⟨_, _, _, _, _, rfl⟩
  ·simp at e0 e1 e2 e3 e4
   subst e0; subst e1; subst e2; subst e3; subst e4
   refine ⟨S3, _, .mk kind num B L D, (g1.trans g2).trans g3, .cons (.int _ _) (.cons (.int _ _) (.cons ((r1.mono g2.ext).mono g3.ext) (.cons (r2.mono g3.ext) (.cons r3 .nil)))), rfl, .mk kind num B L D bv lv dv lc dc ((s1.keeps g2.stay).keeps g3.stay) (s2.keeps g3.stay) s3 (f1.mono m12) (f2.mono m23) f3 (fun i hi => ((q2 i hi).keeps g3.stay).mono m23) (fun i hi => ?_) (fun i hi => ?_) (fun i hi => ?_), .mk k1 k2 k3 (fun e he => (p3 e he).1) p2 (fun e he => (p3 e he).2)⟩
   ·obtain ⟨r, h1, _, _⟩ := q3 i hi
    exact (chunk6 h1).1
   ·obtain ⟨r, h1, h2, _⟩ := q3 i hi
    rw [(chunk6 h1).2]; exact h2
   ·obtain ⟨_, _, _, h3⟩ := q3 i hi
    exact h3
end Go.Proofs.Ythlbahnfimigcaa