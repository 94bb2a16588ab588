import Derived.Test.YthlbahnfimigcaaCosE
import Derived.Test.YthlbahnfimigcaaObjT
set_option linter.unusedSimpArgs false
set_option linter.unusedVariables false
set_option maxRecDepth 100000
namespace Go.Proofs.Ythlbahnfimigcaa
open Go.Cl
theorem has_any {lib : Prims} (hl : lib.at 63 = none) (s : ASt) (k n : Int) (bv lv dv : Value) :
  Runs Try.prog lib 63 [.agg #[.int .i64 k, .int .i64 n, bv, lv, dv]] s fun v s' => v = .bool (decide (k = 7 ∨ k = 8)) ∧ Stay s.next s s' := by
 refine Runs.enter 11 Try.func63 rfl hl rfl rfl ?_
 intro f hn hf
 have h0 : f.get 0 = .agg #[.int .i64 k, .int .i64 n, bv, lv, dv] := hf 0
 clear hf
 simp -implicitDefEqProofs (disch := omega) only [allW, allR, oneOf, evalAll, partsA, optA, Nat.reduceLT, Nat.reduceLeDiff, Nat.reduceEqDiff, Nat.reduceAdd, ↓reduceIte, hn, h0]
 refine wstep_newPtr ?_
 intro s1 ht1 hst1 hnx1
 have l0 : loadA Try.prog s1 3 (.pointer (some ⟨s.next, 0, some 6⟩)) = some (.int .i64 k) := ht1.load agInt (off := 0) (c := 6) rfl (by simp)
 by_cases c7 : k = 7
 ·simp -implicitDefEqProofs (disch := omega) only [allW, allR, wfn_ret, wfn_normal, oneOf, evalAll, partsA, optA, Nat.reduceLT, Nat.reduceLeDiff, Nat.reduceEqDiff, Nat.reduceAdd, ↓reduceIte, undef, hn, h0, List.length_cons, List.length_nil, of0, l0, eq_true c7, Try.results63]
  exact ⟨by simp [c7], hst1⟩
 simp -implicitDefEqProofs (disch := omega) only [allW, allR, wfn_ret, wfn_normal, oneOf, evalAll, partsA, optA, Nat.reduceLT, Nat.reduceLeDiff, Nat.reduceEqDiff, Nat.reduceAdd, ↓reduceIte, undef, hn, h0, List.length_cons, List.length_nil, of0, l0, eq_false c7, Try.results63]
 exact ⟨by simp [c7], hst1⟩
def Named (s : ASt) (b : List UInt8) (v : Value) (s' : ASt) : Prop := Answers (NameB b) v ∧ s' = s
theorem rname_any {lib : Prims} (hl : lib.at 65 = none) (s : ASt) (x : Value) (b : List UInt8) (hx : Sees s 1 x b.length (ofBytes b)) :
  Runs Try.prog lib 65 [x] s (Named s b) := by
 refine Runs.enter 18 Try.func65 rfl hl rfl rfl ?_
 intro f hn hf
 have h0 : f.get 0 = x := hf 0
 clear hf
 by_cases c1 : ((b.length : Nat) : Int) > 127
 ·simp -implicitDefEqProofs (disch := omega) only [allW, allR, wfn_ret, wfn_normal, oneOf, evalAll, partsA, optA, Nat.reduceLT, Nat.reduceLeDiff, Nat.reduceEqDiff, Nat.reduceAdd, ↓reduceIte, hn, h0, hx.lenA Try.underlying22, eq_true c1, Try.results65]
  exact ⟨.no (fun h => by have := h.1; omega), rfl⟩
 simp -implicitDefEqProofs (disch := omega) only [allW, allR, oneOf, evalAll, partsA, optA, Nat.reduceLT, Nat.reduceLeDiff, Nat.reduceEqDiff, Nat.reduceAdd, ↓reduceIte, hn, h0, hx.lenA Try.underlying22, eq_false c1]
 refine Comes.loopOut (fun z f s' => ∃ i : Nat, z = b.length - i ∧ i ≤ b.length ∧ (∀ j, j < i -> ∀ (h : j < b.length), b[j].toNat ≠ 0) ∧ s' = s ∧ f.n = 18 ∧ f.get 0 = x ∧ f.get 3 = .int .i64 (i : Nat))
  (fun z f s' => (z = .ret ∧ s' = s ∧ f.n = 18 ∧ f.get 2 = .bool false ∧ ¬ NameB b) ∨ (z = .exit 0 ∧ (∀ j, j < b.length -> ∀ (h : j < b.length), b[j].toNat ≠ 0) ∧ s' = s ∧ f.n = 18))
  ⟨0, rfl, by omega, fun j h => by omega, rfl, by simp only [get_put, n_put, ↓reduceIte, Nat.reduceEqDiff, hn], by simp only [get_put, n_put, ↓reduceIte, Nat.reduceEqDiff, h0], by simp only [get_put, n_put, ↓reduceIte, Nat.reduceEqDiff]; rfl⟩ ?_ ?_
 ·clear hn h0 f
  rintro Q hQ z f _ ⟨i, rfl, hi, hP, rfl, hn, h0, h3⟩
  by_cases hlt : i < b.length
  rotate_left
  ·obtain rfl : i = b.length := by omega
   have d1 : ¬ ((b.length : Nat) : Int) < ((b.length : Nat) : Int) := by omega
   simp -implicitDefEqProofs (disch := omega) only [allW, allR, oneOf, evalAll, partsA, optA, Nat.reduceLT, Nat.reduceLeDiff, Nat.reduceEqDiff, Nat.reduceAdd, ↓reduceIte, hn, h0, h3, hx.lenA Try.underlying22, eq_false d1]
   exact hQ _ _ _ (.inr ⟨rfl, hP, rfl, by simp only [get_put, n_put, ↓reduceIte, Nat.reduceEqDiff, hn]⟩)
  have d1 : ((i : Nat) : Int) < ((b.length : Nat) : Int) := by omega
  have hix := hx.indexAddr (P := Try.prog) (k := .i64) (x := (i : Int)) Try.underlying22 szU8 (by omega) (by omega)
  rw [Int.toNat_natCast] at hix
  have hld := hx.load1 (P := Try.prog) agU8 hlt
  rw [ofBytes_getD hlt] at hld
  have hg : b.getD i 0 = b[i] := by rw [List.getD_eq_getElem?_getD, List.getElem?_eq_getElem hlt]; rfl
  rw [hg] at hld
  by_cases c2 : ((b[i].toNat : Nat) : Int) = 0
  ·simp -implicitDefEqProofs (disch := omega) only [allW, allR, oneOf, evalAll, partsA, optA, Nat.reduceLT, Nat.reduceLeDiff, Nat.reduceEqDiff, Nat.reduceAdd, ↓reduceIte, hn, h0, h3, hx.lenA Try.underlying22, eq_true d1, hx.self, hix, hld, eq_true c2]
   exact hQ _ _ _ (.inl ⟨rfl, rfl, by simp only [get_put, n_put, ↓reduceIte, Nat.reduceEqDiff, hn], by simp only [get_put, n_put, ↓reduceIte, Nat.reduceEqDiff], fun h => h.2 i hlt (by omega)⟩)
  ·simp -implicitDefEqProofs (disch := omega) only [allW, allR, oneOf, evalAll, partsA, optA, Nat.reduceLT, Nat.reduceLeDiff, Nat.reduceEqDiff, Nat.reduceAdd, ↓reduceIte, hn, h0, h3, hx.lenA Try.underlying22, eq_true d1, hx.self, hix, hld, eq_false c2, wrapI]
   exact wround_next (b.length - (i + 1)) (by omega) ⟨i + 1, rfl, by omega, upto_next hP (fun _ => by omega), rfl, by simp only [get_put, n_put, ↓reduceIte, Nat.reduceEqDiff, hn], by simp only [get_put, n_put, ↓reduceIte, Nat.reduceEqDiff, h0], by simp only [get_put, n_put, ↓reduceIte, Nat.reduceEqDiff]; rfl⟩
 rintro z f' s6 (⟨rfl, rfl, hn', h2, hne⟩ | ⟨rfl, hP, rfl, hn'⟩)
 ·simp -implicitDefEqProofs (disch := omega) only [allW, allR, wfn_ret, wfn_normal, oneOf, evalAll, partsA, optA, Nat.reduceLT, Nat.reduceLeDiff, Nat.reduceEqDiff, Nat.reduceAdd, ↓reduceIte, hn', h2, Try.results65]
  exact ⟨.no hne, rfl⟩
 simp -implicitDefEqProofs (disch := omega) only [allW, allR, wfn_ret, wfn_normal, oneOf, evalAll, partsA, optA, Nat.reduceLT, Nat.reduceLeDiff, Nat.reduceEqDiff, Nat.reduceAdd, ↓reduceIte, hn', Try.results65]
 exact ⟨.yes ⟨by omega, fun i h => hP i h h⟩, rfl⟩
def Within (s : ASt) (n : Int) (v : Value) (s' : ASt) : Prop := v = .bool (decide (-214748364799999 ≤ n ∧ n ≤ 214748364799999)) ∧ s' = s
theorem rin_any {lib : Prims} (hl : lib.at 64 = none) (s : ASt) (n : Int) :
  Runs Try.prog lib 64 [.int .i64 n] s (Within s n) := by
 refine Runs.enter 9 Try.func64 rfl hl rfl rfl ?_
 intro f hn hf
 have h0 : f.get 0 = .int .i64 n := hf 0
 clear hf
 by_cases c1 : -214748364799999 ≤ n
 ·simp -implicitDefEqProofs (disch := omega) only [allW, allR, wfn_ret, wfn_normal, oneOf, evalAll, partsA, optA, Nat.reduceLT, Nat.reduceLeDiff, Nat.reduceEqDiff, Nat.reduceAdd, ↓reduceIte, undef, hn, h0, ge_iff_le, eq_true c1, Try.results64]
  exact ⟨by simp [c1], rfl⟩
 simp -implicitDefEqProofs (disch := omega) only [allW, allR, wfn_ret, wfn_normal, oneOf, evalAll, partsA, optA, Nat.reduceLT, Nat.reduceLeDiff, Nat.reduceEqDiff, Nat.reduceAdd, ↓reduceIte, undef, hn, h0, ge_iff_le, eq_false c1, Try.results64]
 exact ⟨by simp [c1], rfl⟩
theorem efO {s : ASt} {v : Value} {n : Nat} {l : List Value} (h : Sees s 5 v n l) {k : Nat} (hk : k < n) : fieldAddrA Try.prog 26 (elemPtr 5 v k) 0 = some (plusPtr (elemPtr 5 v k) 0) := by
 obtain ⟨i, off, c, e, _⟩ := h.cells hk
 rw [e]
 unfold fieldAddrA; rw [Try.underlying26]; simp [plusPtr, szInt]
theorem objKind {F : Nat -> Prop} {s : ASt} {lc : List Value} {i : Nat} {o : O} (h : OIs F s ((lc.drop (i * 5)).take 5) o) : lc.getD (i * 5) undef = .int .i64 o.kind := by
 cases o with
 | mk k n b l d =>
  obtain ⟨bv, lv, dv, lc', dc, e, -⟩ := h.inv
  have h0 : ((lc.drop (i * 5)).take 5)[0]? = some (.int .i64 k) := by rw [e]; rfl
  rw [List.getElem?_take_of_lt (by omega), List.getElem?_drop, Nat.add_zero] at h0
  rw [List.getD_eq_getElem?_getD, h0]; rfl
def RisesAt (d : List (List UInt8 × O)) (j : Nat) : Prop := ∀ (h : j + 1 < d.length), Rises d[j].1 d[j + 1].1
theorem objHead {F : Nat -> Prop} {s : ASt} {r : List Value} {o : O} (h : OIs F s r o) : r.getD 0 undef = .int .i64 o.kind := by
 cases o with
 | mk k n b l d =>
  obtain ⟨bv, lv, dv, lc', dc, rfl, -⟩ := h.inv
  rfl
def EntsMay (s : ASt) (p : Int) (b : List UInt8) (d : List (List UInt8 × O)) (v : Value) (s' : ASt) : Prop := Answers ((1 ≤ p ∧ b.length ≤ 16777216) ∧ InnerE p d) v ∧ Stay s.next s s'
theorem rents_any {lib : Prims} (hl0 : lib.at 66 = none) (hl3 : lib.at 65 = none) (F : Nat -> Prop) (s : ASt) (k n p : Int) (b : List UInt8) (l : List O) (d : List (List UInt8 × O)) (cs : List Value) (ho : OIs F s cs (.mk k n b l d)) (hfit : Fit (.mk k n b l d)) (hp0 : 0 ≤ p) (hp1 : p ≤ 1000)
  (ih : ∀ i (h : i < d.length) (s' : ASt) (r : List Value), 1 ≤ p -> Stay s.next s s' -> OIs F s' r d[i].2 -> Runs Try.prog lib 48 [.agg r.toArray, .int .i64 (p - 1)] s' fun v s'' => Answers (MayO (p - 1) d[i].2) v ∧ Stay s'.next s' s'') :
  Runs Try.prog lib 66 [.agg cs.toArray, .int .i64 p] s (EntsMay s p b d) := by
 obtain ⟨bv, lv, dv, lc, dc, rfl, hb, hL, hD, -, -, -, rl, rd⟩ := ho.parts
 cases hfit with
 | mk hfb hfl hfd hfK hfL hfD =>
 refine Runs.enter 68 Try.func66 rfl hl0 rfl rfl ?_
 intro f hn hf
 have h0 : f.get 0 = .agg #[.int .i64 k, .int .i64 n, bv, lv, dv] := hf 0
 have h1 : f.get 1 = .int .i64 p := hf 1
 clear hf
 simp -implicitDefEqProofs (disch := omega) only [allW, allR, oneOf, evalAll, partsA, optA, Nat.reduceLT, Nat.reduceLeDiff, Nat.reduceEqDiff, Nat.reduceAdd, ↓reduceIte, hn, h0, h1]
 refine wstep_newPtr ?_
 intro s1 ht1 hst1 hnx1
 have p2 : loadA Try.prog s1 22 (.pointer (some ⟨s.next, 2, some 6⟩)) = some bv := ht1.load agSl (off := 2) (c := 6) rfl (by simp)
 have eb := hb.keeps hst1
 have hno : ∀ (f : AFr) (s6 : ASt), Stay s.next s s6 -> f.n = 68 -> f.get 4 = .bool false -> ¬ ((1 ≤ p ∧ b.length ≤ 16777216) ∧ InnerE p d) -> wfn Try.prog Try.f66.results.toList (EntsMay s p b d) .ret f s6 := by
  intro f s6 hs hn h4 ht
  simp -implicitDefEqProofs (disch := omega) only [allW, allR, wfn_ret, wfn_normal, oneOf, evalAll, partsA, optA, Nat.reduceLT, Nat.reduceLeDiff, Nat.reduceEqDiff, Nat.reduceAdd, ↓reduceIte, hn, h4, Try.results66]
  exact ⟨.no ht, hs⟩
 by_cases c1 : p < 1
 ·simp -implicitDefEqProofs (disch := omega) only [allW, allR, oneOf, evalAll, partsA, optA, Nat.reduceLT, Nat.reduceLeDiff, Nat.reduceEqDiff, Nat.reduceAdd, ↓reduceIte, undef, hn, h0, h1, List.length_cons, List.length_nil, eq_true c1]
  exact hno _ _ hst1 (by simp only [get_put, n_put, ↓reduceIte, Nat.reduceEqDiff, hn]) (by simp only [get_put, n_put, ↓reduceIte, Nat.reduceEqDiff]) (fun h => by have := h.1.1; omega)
 by_cases c2 : ((b.length : Nat) : Int) > 16777216
 ·simp -implicitDefEqProofs (disch := omega) only [allW, allR, oneOf, evalAll, partsA, optA, Nat.reduceLT, Nat.reduceLeDiff, Nat.reduceEqDiff, Nat.reduceAdd, ↓reduceIte, undef, hn, h0, h1, List.length_cons, List.length_nil, eq_false c1, of2, p2, eb.lenA Try.underlying22, eq_true c2]
  exact hno _ _ hst1 (by simp only [get_put, n_put, ↓reduceIte, Nat.reduceEqDiff, hn]) (by simp only [get_put, n_put, ↓reduceIte, Nat.reduceEqDiff]) (fun h => by have := h.1.2; omega)
 simp -implicitDefEqProofs (disch := omega) only [allW, allR, oneOf, evalAll, partsA, optA, Nat.reduceLT, Nat.reduceLeDiff, Nat.reduceEqDiff, Nat.reduceAdd, ↓reduceIte, undef, hn, h0, h1, List.length_cons, List.length_nil, eq_false c1, of2, p2, eb.lenA Try.underlying22, eq_false c2]
 refine Comes.loopOut (fun z f s6 => ∃ i : Nat, z = d.length - i ∧ i ≤ d.length ∧ (∀ j, j < i -> ∀ (h : j < d.length), (NameB d[j].1 ∧ d[j].2.kind ≠ 8 ∧ d[j].2.kind ≠ 0) ∧ MayO (p - 1) d[j].2) ∧ (∀ j, j + 1 < i -> RisesAt d j) ∧ Thing s6 s.next [.int .i64 k, .int .i64 n, bv, lv, dv] ∧ Stay s.next s s6 ∧ f.n = 68 ∧ f.get 1 = .int .i64 p ∧ f.get 2 = .pointer (some ⟨s.next, 0, some 6⟩) ∧ f.get 5 = .int .i64 (i : Nat))
  (fun z f s6 => (z = .ret ∧ Stay s.next s s6 ∧ f.n = 68 ∧ f.get 4 = .bool false ∧ ¬ InnerE p d) ∨ (z = .exit 0 ∧ InnerE p d ∧ Stay s.next s s6 ∧ f.n = 68))
  ⟨0, rfl, by omega, fun j h => by omega, fun j h => by omega, ht1, hst1, by simp only [get_put, n_put, ↓reduceIte, Nat.reduceEqDiff, hn], by simp only [get_put, n_put, ↓reduceIte, Nat.reduceEqDiff, h1], by simp only [get_put, n_put, ↓reduceIte, Nat.reduceEqDiff], by simp only [get_put, n_put, ↓reduceIte, Nat.reduceEqDiff]; rfl⟩ ?_ ?_
 ·clear hn h0 h1 f hno p2 eb ht1
  rintro Q hQ z f s6 ⟨i, rfl, hi, hP, hR, ht, hs, hn, h1, h2, h5⟩
  have hD6 := hD.keeps hs
  have l6 : loadA Try.prog s6 24 (.pointer (some ⟨s.next, 4, some 6⟩)) = some dv := ht.load agDs (off := 4) (c := 6) rfl (by simp)
  by_cases hlt : i < d.length
  rotate_left
  ·obtain rfl : i = d.length := by omega
   have d1 : ¬ ((d.length : Nat) : Int) < ((d.length : Nat) : Int) := by omega
   simp -implicitDefEqProofs (disch := omega) only [allW, allR, oneOf, evalAll, partsA, optA, Nat.reduceLT, Nat.reduceLeDiff, Nat.reduceEqDiff, Nat.reduceAdd, ↓reduceIte, hn, h1, h2, h5, of4, l6, hD6.lenA Try.underlying24, eq_false d1]
   exact hQ _ _ _ (.inr ⟨rfl, ⟨fun j h => hP j h h, fun j h => hR j h h⟩, hs, by simp only [get_put, n_put, ↓reduceIte, Nat.reduceEqDiff, hn]⟩)
  have d1 : (i : Int) < (d.length : Int) := by omega
  have hix := hD6.indexAddr (P := Try.prog) (k := .i64) (x := (i : Int)) Try.underlying24 szE (by omega) (by omega)
  rw [Int.toNat_natCast] at hix
  have hld := hD6.loadAgg (P := Try.prog) agE szE hlt
  obtain ⟨r, hr1, hr2, hr3⟩ := rd.row i hlt
  have hrl := hr2.len
  have hoi := hr2.keeps hs
  rw [hr1] at hld
  obtain ⟨xs, hxs⟩ : ∃ xs, xs = Value.string ⟨(d[i].1).toArray⟩ :: r := ⟨_, rfl⟩
  rw [← hxs] at hld
  have hxl : xs.length = 6 := by rw [hxs]; simp [hrl]
  have hxok : xs.all okCell = true := by rw [hxs, List.all_cons, hr2.ok]; rfl
  have hself6 : valEq (.agg xs.toArray) (.agg xs.toArray) = true := by
   have := hr2.self
   rw [hxs]
   match r, hrl, this with
   | [a, b, c, d, e], _, this =>
    simp [valEq, valEqL] at this ⊢
    exact ⟨by simp [valEq1], this⟩
  simp -implicitDefEqProofs (disch := omega) only [allW, allR, oneOf, evalAll, partsA, optA, Nat.reduceLT, Nat.reduceLeDiff, Nat.reduceEqDiff, Nat.reduceAdd, ↓reduceIte, hn, h1, h2, h5, of4, l6, hD6.lenA Try.underlying24, eq_true d1, hD6.self, hix, hld, hself6, zE, plE]
  refine wstep_newPtr ?_
  intro s7 ht7 hst7 hnx7
  have hd7 : noneE.length + 1 = 7 := rfl
  simp -implicitDefEqProofs (disch := omega) only [allW, allR, oneOf, evalAll, partsA, optA, Nat.reduceLT, Nat.reduceLeDiff, Nat.reduceEqDiff, Nat.reduceAdd, ↓reduceIte, hn, h1, h2, h5, hd7]
  refine wstep_storeAll szE (by decide) ht7 rfl rfl hxl hxok ?_
  intro s8 ht8 hnx8 hot8
  have ht8 : Thing s8 s6.next xs := ht8
  have hs68 : Stay s6.next s6 s8 := hst7.trans ⟨by omega, fun j hj => hot8 j (by omega)⟩
  have ht := ht.keeps hs68
  have hs8 := hs.trans (hs68.weaken hs.next)
  simp -implicitDefEqProofs (disch := omega) only [allW, allR, oneOf, evalAll, partsA, optA, Nat.reduceLT, Nat.reduceLeDiff, Nat.reduceEqDiff, Nat.reduceAdd, ↓reduceIte, hn, h1, h2, h5]
  obtain ⟨A, hA⟩ : ∃ A : Nat -> Bool, A = fun j => decide (j < s8.next) := ⟨_, rfl⟩
  have hAl : ∀ j, A j = true -> j < s8.next := by
   intro j h
   rw [hA] at h
   exact of_decide_eq_true h
  have hAo : ∀ j, j < s8.next -> A j = true := fun j h => by rw [hA]; exact decide_eq_true h
  refine LB.Drawn.looseK A hAl 2 1 (by kernel_rfl) (by kernel_rfl) ?_
  have hsp := Stay.spare s8 1
  have hnT : (spare s8 1).next = s8.next + 1 := spare_next _ _
  have hlow2 : ∀ k, LA.lowV A (some (.pointer (some ⟨s.next, k, some 6⟩))) = true := fun k => LA.lowV_ptr (A := A) (i := s.next) (hAo _ ht.lt)
  have hlow6 : ∀ k, LA.lowV A (some (.pointer (some ⟨s6.next, k, some 7⟩))) = true := fun k => LA.lowV_ptr (A := A) (i := s6.next) (hAo _ ht8.lt)
  have l9 : loadA Try.prog (spare s8 1) 9 (.pointer (some ⟨s6.next, 0, some 7⟩)) = some (.string ⟨(d[i].1).toArray⟩) := by
   have := (ht8.keeps hsp).load (P := Try.prog) agStr (off := 0) (c := 7) (by rw [hxl]) (by omega)
   rw [this, hxs]; rfl
  have tc : textConv Try.prog 9 22 = true := by kernel_rfl
  simp -implicitDefEqProofs (disch := omega) only [allW, allR, allL, allB, Nat.sub_self, Nat.add_one_sub_one, Nat.reduceSub, oneOf, evalAll, partsA, optA, Nat.reduceLT, Nat.reduceLeDiff, Nat.reduceEqDiff, Nat.reduceAdd, ↓reduceIte, undef, hn, h1, h2, h5, of4, ofE0, ofE1, hlow2, hlow6, l9, valEq_string, str_bytes Try.underlying9 Try.underlying22 Try.underlying5 hr3, Try.underlying22, tc, Bool.false_eq_true]
  refine LB.smake_newSlice (base := s8.next) (by rw [ofBytes_length, Nat.mul_one]) (by omega) (Nat.le_refl _) ?_
  intro bs s9 hbs hid hst9 hnx9 hot9
  simp -implicitDefEqProofs (disch := omega) only [allW, allR, allL, allB, Nat.sub_self, Nat.add_one_sub_one, Nat.reduceSub, oneOf, evalAll, partsA, optA, Nat.reduceLT, Nat.reduceLeDiff, Nat.reduceEqDiff, Nat.reduceAdd, ↓reduceIte, undef, hn, h1, h2, h5, of4, ofE0, ofE1, hlow2, hlow6, hbs.self]
  refine (rname_any hl3 s9 bs d[i].1 hbs.sees).mono ?_
  rintro _ sa ⟨⟨t, rfl, htt⟩, rfl⟩
  have hs8a : Stay s8.next s8 sa := hsp.trans hst9
  have hsa : Stay s.next s sa := hs8.trans (hs8a.weaken hs8.next)
  have hta := ht.keeps hs8a
  have ht8a := ht8.keeps hs8a
  have hD8 := hD.keeps hs8
  have hDa := hD.keeps hsa
  have m9 : loadA Try.prog sa 9 (.pointer (some ⟨s6.next, 0, some 7⟩)) = some (.string ⟨(d[i].1).toArray⟩) := by
   have := ht8a.load (P := Try.prog) agStr (off := 0) (c := 7) (by rw [hxl]) (by omega)
   rw [this, hxs]; rfl
  have m1 : loadA Try.prog sa 26 (.pointer (some ⟨s6.next, 1, some 7⟩)) = some (.agg r.toArray) := by
   have := Thing.loadMid (P := Try.prog) agO szO ht8a (off := 1) (c := 7) (by rw [hxl]) (by omega)
   rw [this, hxs, List.drop_succ_cons, List.drop_zero, List.take_of_length_le (by omega)]
  have mk : loadA Try.prog sa 3 (.pointer (some ⟨s6.next, 1, some 7⟩)) = some (.int .i64 d[i].2.kind) := by
   have := ht8a.load (P := Try.prog) agInt (off := 1) (c := 7) (by rw [hxl]) (by omega)
   rw [this, hxs]
   exact congrArg some (objHead hr2)
  have m6 : loadA Try.prog sa 24 (.pointer (some ⟨s.next, 4, some 6⟩)) = some dv := hta.load agDs (off := 4) (c := 6) rfl (by simp)
  have hoa := hr2.keeps hsa
  refine ⟨fun _ => LA.Stay.toA hAl (Stay.refl _ _), ?_⟩
  cases t with
  | false =>
   simp -implicitDefEqProofs (disch := omega) only [allW, allR, allL, allB, Nat.sub_self, Nat.add_one_sub_one, Nat.reduceSub, oneOf, evalAll, partsA, optA, Nat.reduceLT, Nat.reduceLeDiff, Nat.reduceEqDiff, Nat.reduceAdd, ↓reduceIte, undef, hn, h1, h2, h5]
   exact hQ _ _ _ (.inl ⟨rfl, hsa, by simp only [get_put, n_put, ↓reduceIte, Nat.reduceEqDiff, hn], by simp only [get_put, n_put, ↓reduceIte, Nat.reduceEqDiff], fun h => by have := htt.2 (h.1 i hlt).1.1; cases this⟩)
  | true =>
  have hnm := htt.1 rfl
  by_cases i0 : (0 : Int) < ((i : Nat) : Int)
  ·have hlt1 : i - 1 < d.length := by omega
   have hiy := hDa.indexAddr (P := Try.prog) (k := .i64) (x := (i : Int) - 1) Try.underlying24 szE (by omega) (by omega)
   rw [show ((i : Int) - 1).toNat = i - 1 by omega] at hiy
   obtain ⟨q0, q1⟩ := efE hDa hlt1
   obtain ⟨r', e1, e2, e3⟩ := rd.row (i - 1) hlt1
   obtain ⟨a1, a2⟩ := chunk6 e1
   have hlk := hDa.loadField (P := Try.prog) agStr hlt1 (j := 0) (by omega)
   rw [Nat.add_zero, a1] at hlk
   have hlw := LA.lowV_plus (j := 0) hD8 hAo hlt1
   by_cases hle : (Op.bytesLess d[i].1 d[i - 1].1 || d[i].1 == d[i - 1].1) = true
   ·simp -implicitDefEqProofs (disch := omega) only [allW, allR, allL, allB, Nat.sub_self, Nat.add_one_sub_one, Nat.reduceSub, oneOf, evalAll, partsA, optA, Nat.reduceLT, Nat.reduceLeDiff, Nat.reduceEqDiff, Nat.reduceAdd, ↓reduceIte, undef, hn, h1, h2, h5, of4, of0, ofE0, ofE1, hlow2, hlow6, m9, m6, eq_true i0, hDa.self, hiy, q0, hlk, hlw, str_leq, hle, valEq_string, valEq_plus, wrapI]
    refine hQ _ _ _ (.inl ⟨rfl, hsa, by simp only [get_put, n_put, ↓reduceIte, Nat.reduceEqDiff, hn], by simp only [get_put, n_put, ↓reduceIte, Nat.reduceEqDiff], fun h => ?_⟩)
    obtain ⟨j, rfl⟩ : ∃ j, i = j + 1 := ⟨i - 1, by omega⟩
    exact h.2 j hlt hle
   have hlf := Bool.eq_false_iff.mpr hle
   have hrise : ∀ j, j + 1 = i -> RisesAt d j := by
    rintro j rfl _
    exact hle
   by_cases k8 : d[i].2.kind = 8
   ·simp -implicitDefEqProofs (disch := omega) only [allW, allR, allL, allB, Nat.sub_self, Nat.add_one_sub_one, Nat.reduceSub, oneOf, evalAll, partsA, optA, Nat.reduceLT, Nat.reduceLeDiff, Nat.reduceEqDiff, Nat.reduceAdd, ↓reduceIte, undef, hn, h1, h2, h5, of4, of0, ofE0, ofE1, hlow2, hlow6, m9, m6, mk, eq_true i0, hDa.self, hiy, q0, hlk, hlw, str_leq, hlf, valEq_string, valEq_plus, wrapI, eq_true k8]
    exact hQ _ _ _ (.inl ⟨rfl, hsa, by simp only [get_put, n_put, ↓reduceIte, Nat.reduceEqDiff, hn], by simp only [get_put, n_put, ↓reduceIte, Nat.reduceEqDiff], fun h => (h.1 i hlt).1.2.1 k8⟩)
   by_cases k0 : d[i].2.kind = 0
   ·simp -implicitDefEqProofs (disch := omega) only [allW, allR, allL, allB, Nat.sub_self, Nat.add_one_sub_one, Nat.reduceSub, oneOf, evalAll, partsA, optA, Nat.reduceLT, Nat.reduceLeDiff, Nat.reduceEqDiff, Nat.reduceAdd, ↓reduceIte, undef, hn, h1, h2, h5, of4, of0, ofE0, ofE1, hlow2, hlow6, m9, m6, mk, eq_true i0, hDa.self, hiy, q0, hlk, hlw, str_leq, hlf, valEq_string, valEq_plus, wrapI, eq_false k8, eq_true k0]
    exact hQ _ _ _ (.inl ⟨rfl, hsa, by simp only [get_put, n_put, ↓reduceIte, Nat.reduceEqDiff, hn], by simp only [get_put, n_put, ↓reduceIte, Nat.reduceEqDiff], fun h => (h.1 i hlt).1.2.2 k0⟩)
   simp -implicitDefEqProofs (disch := omega) only [allW, allR, allL, allB, Nat.sub_self, Nat.add_one_sub_one, Nat.reduceSub, oneOf, evalAll, partsA, optA, Nat.reduceLT, Nat.reduceLeDiff, Nat.reduceEqDiff, Nat.reduceAdd, ↓reduceIte, undef, hn, h1, h2, h5, of4, of0, ofE0, ofE1, hlow2, hlow6, m9, m6, mk, m1, eq_true i0, hDa.self, hiy, q0, hlk, hlw, str_leq, hlf, valEq_string, valEq_plus, wrapI, eq_false k8, eq_false k0, hoa.self, wrapI]
   refine (ih i hlt sa r (by omega) hsa hoa).mono ?_
   rintro _ sb ⟨⟨t, rfl, htb⟩, hsb⟩
   have hss := hsa.trans (hsb.weaken hsa.next)
   refine ⟨fun _ => LA.Stay.toA hAl (hsb.weaken hs8a.next), ?_⟩
   cases t with
   | false =>
    simp -implicitDefEqProofs (disch := omega) only [allW, allR, allL, allB, Nat.sub_self, Nat.add_one_sub_one, Nat.reduceSub, oneOf, evalAll, partsA, optA, Nat.reduceLT, Nat.reduceLeDiff, Nat.reduceEqDiff, Nat.reduceAdd, ↓reduceIte, undef, hn, h1, h2, h5]
    exact hQ _ _ _ (.inl ⟨rfl, hss, by simp only [get_put, n_put, ↓reduceIte, Nat.reduceEqDiff, hn], by simp only [get_put, n_put, ↓reduceIte, Nat.reduceEqDiff], fun h => by have := htb.2 (h.1 i hlt).2; cases this⟩)
   | true =>
    simp -implicitDefEqProofs (disch := omega) only [allW, allR, allL, allB, Nat.sub_self, Nat.add_one_sub_one, Nat.reduceSub, oneOf, evalAll, partsA, optA, Nat.reduceLT, Nat.reduceLeDiff, Nat.reduceEqDiff, Nat.reduceAdd, ↓reduceIte, undef, hn, h1, h2, h5, wrapI]
    refine wround_next (d.length - (i + 1)) (by omega) ⟨i + 1, rfl, by omega, upto_next hP (fun _ => ⟨⟨hnm, k8, k0⟩, htb.1 rfl⟩), ?_, hta.keeps hsb, hss, by simp only [get_put, n_put, ↓reduceIte, Nat.reduceEqDiff, hn], by simp only [get_put, n_put, ↓reduceIte, Nat.reduceEqDiff, h1], by simp only [get_put, n_put, ↓reduceIte, Nat.reduceEqDiff, h2], by simp only [get_put, n_put, ↓reduceIte, Nat.reduceEqDiff]; rfl⟩
    intro j hj
    by_cases hji : j + 1 < i
    ·exact hR j hji
    ·exact hrise j (by omega)
  ·have hrise : ∀ j, j + 1 = i -> RisesAt d j := fun j hj => by omega
   by_cases k8 : d[i].2.kind = 8
   ·simp -implicitDefEqProofs (disch := omega) only [allW, allR, allL, allB, Nat.sub_self, Nat.add_one_sub_one, Nat.reduceSub, oneOf, evalAll, partsA, optA, Nat.reduceLT, Nat.reduceLeDiff, Nat.reduceEqDiff, Nat.reduceAdd, ↓reduceIte, undef, hn, h1, h2, h5, of4, of0, ofE0, ofE1, hlow2, hlow6, m9, m6, mk, eq_false i0, valEq_string, wrapI, eq_true k8]
    exact hQ _ _ _ (.inl ⟨rfl, hsa, by simp only [get_put, n_put, ↓reduceIte, Nat.reduceEqDiff, hn], by simp only [get_put, n_put, ↓reduceIte, Nat.reduceEqDiff], fun h => (h.1 i hlt).1.2.1 k8⟩)
   by_cases k0 : d[i].2.kind = 0
   ·simp -implicitDefEqProofs (disch := omega) only [allW, allR, allL, allB, Nat.sub_self, Nat.add_one_sub_one, Nat.reduceSub, oneOf, evalAll, partsA, optA, Nat.reduceLT, Nat.reduceLeDiff, Nat.reduceEqDiff, Nat.reduceAdd, ↓reduceIte, undef, hn, h1, h2, h5, of4, of0, ofE0, ofE1, hlow2, hlow6, m9, m6, mk, eq_false i0, valEq_string, wrapI, eq_false k8, eq_true k0]
    exact hQ _ _ _ (.inl ⟨rfl, hsa, by simp only [get_put, n_put, ↓reduceIte, Nat.reduceEqDiff, hn], by simp only [get_put, n_put, ↓reduceIte, Nat.reduceEqDiff], fun h => (h.1 i hlt).1.2.2 k0⟩)
   simp -implicitDefEqProofs (disch := omega) only [allW, allR, allL, allB, Nat.sub_self, Nat.add_one_sub_one, Nat.reduceSub, oneOf, evalAll, partsA, optA, Nat.reduceLT, Nat.reduceLeDiff, Nat.reduceEqDiff, Nat.reduceAdd, ↓reduceIte, undef, hn, h1, h2, h5, of4, of0, ofE0, ofE1, hlow2, hlow6, m9, m6, mk, m1, eq_false i0, valEq_string, wrapI, eq_false k8, eq_false k0, hoa.self, wrapI]
   refine (ih i hlt sa r (by omega) hsa hoa).mono ?_
   rintro _ sb ⟨⟨t, rfl, htb⟩, hsb⟩
   have hss := hsa.trans (hsb.weaken hsa.next)
   refine ⟨fun _ => LA.Stay.toA hAl (hsb.weaken hs8a.next), ?_⟩
   cases t with
   | false =>
    simp -implicitDefEqProofs (disch := omega) only [allW, allR, allL, allB, Nat.sub_self, Nat.add_one_sub_one, Nat.reduceSub, oneOf, evalAll, partsA, optA, Nat.reduceLT, Nat.reduceLeDiff, Nat.reduceEqDiff, Nat.reduceAdd, ↓reduceIte, undef, hn, h1, h2, h5]
    exact hQ _ _ _ (.inl ⟨rfl, hss, by simp only [get_put, n_put, ↓reduceIte, Nat.reduceEqDiff, hn], by simp only [get_put, n_put, ↓reduceIte, Nat.reduceEqDiff], fun h => by have := htb.2 (h.1 i hlt).2; cases this⟩)
   | true =>
    simp -implicitDefEqProofs (disch := omega) only [allW, allR, allL, allB, Nat.sub_self, Nat.add_one_sub_one, Nat.reduceSub, oneOf, evalAll, partsA, optA, Nat.reduceLT, Nat.reduceLeDiff, Nat.reduceEqDiff, Nat.reduceAdd, ↓reduceIte, undef, hn, h1, h2, h5, wrapI]
    refine wround_next (d.length - (i + 1)) (by omega) ⟨i + 1, rfl, by omega, upto_next hP (fun _ => ⟨⟨hnm, k8, k0⟩, htb.1 rfl⟩), ?_, hta.keeps hsb, hss, by simp only [get_put, n_put, ↓reduceIte, Nat.reduceEqDiff, hn], by simp only [get_put, n_put, ↓reduceIte, Nat.reduceEqDiff, h1], by simp only [get_put, n_put, ↓reduceIte, Nat.reduceEqDiff, h2], by simp only [get_put, n_put, ↓reduceIte, Nat.reduceEqDiff]; rfl⟩
    intro j hj
    by_cases hji : j + 1 < i
    ·exact hR j hji
    ·exact hrise j (by omega)
 clear hn h0 h1 f
 rintro z f s6 (⟨rfl, hs, hn, h4, hne⟩ | ⟨rfl, hI, hs, hn⟩)
 ·simp -implicitDefEqProofs (disch := omega) only [allW, allR, oneOf, evalAll, partsA, optA, Nat.reduceLT, Nat.reduceLeDiff, Nat.reduceEqDiff, Nat.reduceAdd, ↓reduceIte]
  exact hno _ _ hs hn h4 (fun h => hne h.2)
 simp -implicitDefEqProofs (disch := omega) only [allW, allR, wfn_ret, wfn_normal, oneOf, evalAll, partsA, optA, Nat.reduceLT, Nat.reduceLeDiff, Nat.reduceEqDiff, Nat.reduceAdd, ↓reduceIte, hn, Try.results66]
 exact ⟨.yes ⟨⟨by omega, by omega⟩, hI⟩, hs⟩
set_option maxHeartbeats 8000000 in
theorem rmay_any {lib : Prims} (hl0 : lib.at 48 = none) (hl1 : lib.at 63 = none) (hl2 : lib.at 64 = none) (hl3 : lib.at 65 = none) (hl4 : lib.at 66 = none) : ∀ (N : Nat) (o : O), SizeOf.sizeOf o ≤ N -> ∀ (F : Nat -> Prop) (s : ASt) (cs : List Value) (p : Int), OIs F s cs o -> Fit o -> 0 ≤ p -> p ≤ 1000 ->
  Runs Try.prog lib 48 [.agg cs.toArray, .int .i64 p] s fun v s' => Answers (MayO p o) v ∧ Stay s.next s s' := by
 intro N
 induction N with
 | zero => intro o h; cases o; simp at h
 | succ N ih =>
 intro o hN F s cs p ho hfit hp0 hp1
 cases o with
 | mk k n b l d =>
 obtain ⟨bv, lv, dv, lc, dc, rfl, hb, hL, hD, -, -, -, rl, rd⟩ := ho.parts
 cases hfit with
 | mk hfb hfl hfd hfK hfL hfD =>
 obtain ⟨QQ, hQQ⟩ : ∃ QQ : Value -> ASt -> Prop, QQ = fun v s' => Answers (MayO p (.mk k n b l d)) v ∧ Stay s.next s s' := ⟨_, rfl⟩
 rw [← hQQ]
 refine Runs.enter 143 Try.func48 rfl hl0 rfl rfl ?_
 intro f hn hf
 have h0 : f.get 0 = .agg #[.int .i64 k, .int .i64 n, bv, lv, dv] := hf 0
 have h1 : f.get 1 = .int .i64 p := hf 1
 clear hf
 simp -implicitDefEqProofs (disch := omega) only [allW, allR, oneOf, evalAll, partsA, optA, Nat.reduceLT, Nat.reduceLeDiff, Nat.reduceEqDiff, Nat.reduceAdd, ↓reduceIte, hn, h0, h1]
 refine wstep_newPtr ?_
 intro s1 ht1 hst1 hnx1
 have la := Thing.loadAll (P := Try.prog) (cs := [.int .i64 k, .int .i64 n, bv, lv, dv]) agO szO ht1 (c := 6) rfl
 simp -implicitDefEqProofs (disch := omega) only [allW, allR, oneOf, evalAll, partsA, optA, Nat.reduceLT, Nat.reduceLeDiff, Nat.reduceEqDiff, Nat.reduceAdd, ↓reduceIte, hn, h0, h1, List.length_cons, List.length_nil, la]
 refine (has_any hl1 s1 k n bv lv dv).mono ?_
 obtain ⟨H, hH⟩ : ∃ H : Bool, H = decide (k = 7 ∨ k = 8) := ⟨_, rfl⟩
 rw [← hH]
 rintro _ s2 ⟨rfl, hs2⟩
 have hs02 := hst1.trans (hs2.weaken hst1.next)
 have ht2 := ht1.keeps hs2
 have p0 : loadA Try.prog s2 3 (.pointer (some ⟨s.next, 0, some 6⟩)) = some (.int .i64 k) := ht2.load agInt (off := 0) (c := 6) rfl (by simp)
 have p1 : loadA Try.prog s2 2 (.pointer (some ⟨s.next, 1, some 6⟩)) = some (.int .i64 n) := ht2.load agI64 (off := 1) (c := 6) rfl (by simp)
 have p2 : loadA Try.prog s2 22 (.pointer (some ⟨s.next, 2, some 6⟩)) = some bv := ht2.load agSl (off := 2) (c := 6) rfl (by simp)
 have p3 : loadA Try.prog s2 23 (.pointer (some ⟨s.next, 3, some 6⟩)) = some lv := ht2.load agLs (off := 3) (c := 6) rfl (by simp)
 have p4 : loadA Try.prog s2 24 (.pointer (some ⟨s.next, 4, some 6⟩)) = some dv := ht2.load agDs (off := 4) (c := 6) rfl (by simp)
 have eb := hb.keeps hs02
 have eL := hL.keeps hs02
 have eD := hD.keeps hs02
 simp -implicitDefEqProofs (disch := omega) only [allW, allR, oneOf, evalAll, partsA, optA, Nat.reduceLT, Nat.reduceLeDiff, Nat.reduceEqDiff, Nat.reduceAdd, ↓reduceIte, hn, h0, h1, of3, p3, eL.lenA Try.underlying23]
 refine wwant_cut (fun f' s' => s' = s2 ∧ f'.n = 143 ∧ f'.get 1 = .int .i64 p ∧ f'.get 2 = .pointer (some ⟨s.next, 0, some 6⟩) ∧ ∃ t : Bool, f'.get 48 = .bool t ∧ (t = true ↔ ((0 < l.length ∧ k ≠ 6) ∨ (0 < d.length ∧ ¬ (k = 7 ∨ k = 8)) ∨ (0 < b.length ∧ k ≠ 4 ∧ k ≠ 5 ∧ k ≠ 8)))) ?_ ?_
 ·intro Q' hQ
  by_cases cL : (0 : Int) < ((l.length : Nat) : Int)
  ·by_cases c6 : k = 6
   ·by_cases cD : (0 : Int) < ((d.length : Nat) : Int)
    ·by_cases hh : k = 7 ∨ k = 8
     ·by_cases cB : (0 : Int) < ((b.length : Nat) : Int)
      ·by_cases c4 : k = 4
       ·simp -implicitDefEqProofs (disch := omega) only [allW, allR, oneOf, evalAll, partsA, optA, Nat.reduceLT, Nat.reduceLeDiff, Nat.reduceEqDiff, Nat.reduceAdd, ↓reduceIte, undef, hn, h0, h1, of0, of2, of3, of4, p0, p2, p3, p4, eL.lenA Try.underlying23, eD.lenA Try.underlying24, eb.lenA Try.underlying22, not_true_eq_false, not_false_eq_true, eq_true cL, eq_true c6, eq_true cD, hH.trans (decide_eq_true hh), eq_true cB, eq_true c4]
        exact hQ _ _ ⟨rfl, by simp only [get_put, n_put, ↓reduceIte, Nat.reduceEqDiff, hn], by simp only [get_put, n_put, ↓reduceIte, Nat.reduceEqDiff, h1], by simp only [get_put, n_put, ↓reduceIte, Nat.reduceEqDiff], false, by simp only [get_put, n_put, ↓reduceIte, Nat.reduceEqDiff], ⟨fun h => by (cases h), fun h => absurd h (by omega)⟩⟩
       ·by_cases c5 : k = 5
        ·simp -implicitDefEqProofs (disch := omega) only [allW, allR, oneOf, evalAll, partsA, optA, Nat.reduceLT, Nat.reduceLeDiff, Nat.reduceEqDiff, Nat.reduceAdd, ↓reduceIte, undef, hn, h0, h1, of0, of2, of3, of4, p0, p2, p3, p4, eL.lenA Try.underlying23, eD.lenA Try.underlying24, eb.lenA Try.underlying22, not_true_eq_false, not_false_eq_true, eq_true cL, eq_true c6, eq_true cD, hH.trans (decide_eq_true hh), eq_true cB, eq_false c4, eq_true c5]
         exact hQ _ _ ⟨rfl, by simp only [get_put, n_put, ↓reduceIte, Nat.reduceEqDiff, hn], by simp only [get_put, n_put, ↓reduceIte, Nat.reduceEqDiff, h1], by simp only [get_put, n_put, ↓reduceIte, Nat.reduceEqDiff], false, by simp only [get_put, n_put, ↓reduceIte, Nat.reduceEqDiff], ⟨fun h => by (cases h), fun h => absurd h (by omega)⟩⟩
        ·by_cases c8 : k = 8
         ·simp -implicitDefEqProofs (disch := omega) only [allW, allR, oneOf, evalAll, partsA, optA, Nat.reduceLT, Nat.reduceLeDiff, Nat.reduceEqDiff, Nat.reduceAdd, ↓reduceIte, undef, hn, h0, h1, of0, of2, of3, of4, p0, p2, p3, p4, eL.lenA Try.underlying23, eD.lenA Try.underlying24, eb.lenA Try.underlying22, not_true_eq_false, not_false_eq_true, eq_true cL, eq_true c6, eq_true cD, hH.trans (decide_eq_true hh), eq_true cB, eq_false c4, eq_false c5, eq_true c8]
          exact hQ _ _ ⟨rfl, by simp only [get_put, n_put, ↓reduceIte, Nat.reduceEqDiff, hn], by simp only [get_put, n_put, ↓reduceIte, Nat.reduceEqDiff, h1], by simp only [get_put, n_put, ↓reduceIte, Nat.reduceEqDiff], false, by simp only [get_put, n_put, ↓reduceIte, Nat.reduceEqDiff], ⟨fun h => by (cases h), fun h => absurd h (by omega)⟩⟩
         ·simp -implicitDefEqProofs (disch := omega) only [allW, allR, oneOf, evalAll, partsA, optA, Nat.reduceLT, Nat.reduceLeDiff, Nat.reduceEqDiff, Nat.reduceAdd, ↓reduceIte, undef, hn, h0, h1, of0, of2, of3, of4, p0, p2, p3, p4, eL.lenA Try.underlying23, eD.lenA Try.underlying24, eb.lenA Try.underlying22, not_true_eq_false, not_false_eq_true, eq_true cL, eq_true c6, eq_true cD, hH.trans (decide_eq_true hh), eq_true cB, eq_false c4, eq_false c5, eq_false c8]
          exact hQ _ _ ⟨rfl, by simp only [get_put, n_put, ↓reduceIte, Nat.reduceEqDiff, hn], by simp only [get_put, n_put, ↓reduceIte, Nat.reduceEqDiff, h1], by simp only [get_put, n_put, ↓reduceIte, Nat.reduceEqDiff], true, by simp only [get_put, n_put, ↓reduceIte, Nat.reduceEqDiff], ⟨fun _ => by omega, fun _ => rfl⟩⟩
      ·simp -implicitDefEqProofs (disch := omega) only [allW, allR, oneOf, evalAll, partsA, optA, Nat.reduceLT, Nat.reduceLeDiff, Nat.reduceEqDiff, Nat.reduceAdd, ↓reduceIte, undef, hn, h0, h1, of0, of2, of3, of4, p0, p2, p3, p4, eL.lenA Try.underlying23, eD.lenA Try.underlying24, eb.lenA Try.underlying22, not_true_eq_false, not_false_eq_true, eq_true cL, eq_true c6, eq_true cD, hH.trans (decide_eq_true hh), eq_false cB]
       exact hQ _ _ ⟨rfl, by simp only [get_put, n_put, ↓reduceIte, Nat.reduceEqDiff, hn], by simp only [get_put, n_put, ↓reduceIte, Nat.reduceEqDiff, h1], by simp only [get_put, n_put, ↓reduceIte, Nat.reduceEqDiff], false, by simp only [get_put, n_put, ↓reduceIte, Nat.reduceEqDiff], ⟨fun h => by (cases h), fun h => absurd h (by omega)⟩⟩
     ·simp -implicitDefEqProofs (disch := omega) only [allW, allR, oneOf, evalAll, partsA, optA, Nat.reduceLT, Nat.reduceLeDiff, Nat.reduceEqDiff, Nat.reduceAdd, ↓reduceIte, undef, hn, h0, h1, of0, of2, of3, of4, p0, p2, p3, p4, eL.lenA Try.underlying23, eD.lenA Try.underlying24, eb.lenA Try.underlying22, not_true_eq_false, not_false_eq_true, eq_true cL, eq_true c6, eq_true cD, hH.trans (decide_eq_false hh)]
      exact hQ _ _ ⟨rfl, by simp only [get_put, n_put, ↓reduceIte, Nat.reduceEqDiff, hn], by simp only [get_put, n_put, ↓reduceIte, Nat.reduceEqDiff, h1], by simp only [get_put, n_put, ↓reduceIte, Nat.reduceEqDiff], true, by simp only [get_put, n_put, ↓reduceIte, Nat.reduceEqDiff], ⟨fun _ => by omega, fun _ => rfl⟩⟩
    ·by_cases cB : (0 : Int) < ((b.length : Nat) : Int)
     ·by_cases c4 : k = 4
      ·simp -implicitDefEqProofs (disch := omega) only [allW, allR, oneOf, evalAll, partsA, optA, Nat.reduceLT, Nat.reduceLeDiff, Nat.reduceEqDiff, Nat.reduceAdd, ↓reduceIte, undef, hn, h0, h1, of0, of2, of3, of4, p0, p2, p3, p4, eL.lenA Try.underlying23, eD.lenA Try.underlying24, eb.lenA Try.underlying22, not_true_eq_false, not_false_eq_true, eq_true cL, eq_true c6, eq_false cD, eq_true cB, eq_true c4]
       exact hQ _ _ ⟨rfl, by simp only [get_put, n_put, ↓reduceIte, Nat.reduceEqDiff, hn], by simp only [get_put, n_put, ↓reduceIte, Nat.reduceEqDiff, h1], by simp only [get_put, n_put, ↓reduceIte, Nat.reduceEqDiff], false, by simp only [get_put, n_put, ↓reduceIte, Nat.reduceEqDiff], ⟨fun h => by (cases h), fun h => absurd h (by omega)⟩⟩
      ·by_cases c5 : k = 5
       ·simp -implicitDefEqProofs (disch := omega) only [allW, allR, oneOf, evalAll, partsA, optA, Nat.reduceLT, Nat.reduceLeDiff, Nat.reduceEqDiff, Nat.reduceAdd, ↓reduceIte, undef, hn, h0, h1, of0, of2, of3, of4, p0, p2, p3, p4, eL.lenA Try.underlying23, eD.lenA Try.underlying24, eb.lenA Try.underlying22, not_true_eq_false, not_false_eq_true, eq_true cL, eq_true c6, eq_false cD, eq_true cB, eq_false c4, eq_true c5]
        exact hQ _ _ ⟨rfl, by simp only [get_put, n_put, ↓reduceIte, Nat.reduceEqDiff, hn], by simp only [get_put, n_put, ↓reduceIte, Nat.reduceEqDiff, h1], by simp only [get_put, n_put, ↓reduceIte, Nat.reduceEqDiff], false, by simp only [get_put, n_put, ↓reduceIte, Nat.reduceEqDiff], ⟨fun h => by (cases h), fun h => absurd h (by omega)⟩⟩
       ·by_cases c8 : k = 8
        ·simp -implicitDefEqProofs (disch := omega) only [allW, allR, oneOf, evalAll, partsA, optA, Nat.reduceLT, Nat.reduceLeDiff, Nat.reduceEqDiff, Nat.reduceAdd, ↓reduceIte, undef, hn, h0, h1, of0, of2, of3, of4, p0, p2, p3, p4, eL.lenA Try.underlying23, eD.lenA Try.underlying24, eb.lenA Try.underlying22, not_true_eq_false, not_false_eq_true, eq_true cL, eq_true c6, eq_false cD, eq_true cB, eq_false c4, eq_false c5, eq_true c8]
         exact hQ _ _ ⟨rfl, by simp only [get_put, n_put, ↓reduceIte, Nat.reduceEqDiff, hn], by simp only [get_put, n_put, ↓reduceIte, Nat.reduceEqDiff, h1], by simp only [get_put, n_put, ↓reduceIte, Nat.reduceEqDiff], false, by simp only [get_put, n_put, ↓reduceIte, Nat.reduceEqDiff], ⟨fun h => by (cases h), fun h => absurd h (by omega)⟩⟩
        ·simp -implicitDefEqProofs (disch := omega) only [allW, allR, oneOf, evalAll, partsA, optA, Nat.reduceLT, Nat.reduceLeDiff, Nat.reduceEqDiff, Nat.reduceAdd, ↓reduceIte, undef, hn, h0, h1, of0, of2, of3, of4, p0, p2, p3, p4, eL.lenA Try.underlying23, eD.lenA Try.underlying24, eb.lenA Try.underlying22, not_true_eq_false, not_false_eq_true, eq_true cL, eq_true c6, eq_false cD, eq_true cB, eq_false c4, eq_false c5, eq_false c8]
         exact hQ _ _ ⟨rfl, by simp only [get_put, n_put, ↓reduceIte, Nat.reduceEqDiff, hn], by simp only [get_put, n_put, ↓reduceIte, Nat.reduceEqDiff, h1], by simp only [get_put, n_put, ↓reduceIte, Nat.reduceEqDiff], true, by simp only [get_put, n_put, ↓reduceIte, Nat.reduceEqDiff], ⟨fun _ => by omega, fun _ => rfl⟩⟩
     ·simp -implicitDefEqProofs (disch := omega) only [allW, allR, oneOf, evalAll, partsA, optA, Nat.reduceLT, Nat.reduceLeDiff, Nat.reduceEqDiff, Nat.reduceAdd, ↓reduceIte, undef, hn, h0, h1, of0, of2, of3, of4, p0, p2, p3, p4, eL.lenA Try.underlying23, eD.lenA Try.underlying24, eb.lenA Try.underlying22, not_true_eq_false, not_false_eq_true, eq_true cL, eq_true c6, eq_false cD, eq_false cB]
      exact hQ _ _ ⟨rfl, by simp only [get_put, n_put, ↓reduceIte, Nat.reduceEqDiff, hn], by simp only [get_put, n_put, ↓reduceIte, Nat.reduceEqDiff, h1], by simp only [get_put, n_put, ↓reduceIte, Nat.reduceEqDiff], false, by simp only [get_put, n_put, ↓reduceIte, Nat.reduceEqDiff], ⟨fun h => by (cases h), fun h => absurd h (by omega)⟩⟩
   ·simp -implicitDefEqProofs (disch := omega) only [allW, allR, oneOf, evalAll, partsA, optA, Nat.reduceLT, Nat.reduceLeDiff, Nat.reduceEqDiff, Nat.reduceAdd, ↓reduceIte, undef, hn, h0, h1, of0, of2, of3, of4, p0, p2, p3, p4, eL.lenA Try.underlying23, eD.lenA Try.underlying24, eb.lenA Try.underlying22, not_true_eq_false, not_false_eq_true, eq_true cL, eq_false c6]
    exact hQ _ _ ⟨rfl, by simp only [get_put, n_put, ↓reduceIte, Nat.reduceEqDiff, hn], by simp only [get_put, n_put, ↓reduceIte, Nat.reduceEqDiff, h1], by simp only [get_put, n_put, ↓reduceIte, Nat.reduceEqDiff], true, by simp only [get_put, n_put, ↓reduceIte, Nat.reduceEqDiff], ⟨fun _ => by omega, fun _ => rfl⟩⟩
  ·by_cases cD : (0 : Int) < ((d.length : Nat) : Int)
   ·by_cases hh : k = 7 ∨ k = 8
    ·by_cases cB : (0 : Int) < ((b.length : Nat) : Int)
     ·by_cases c4 : k = 4
      ·simp -implicitDefEqProofs (disch := omega) only [allW, allR, oneOf, evalAll, partsA, optA, Nat.reduceLT, Nat.reduceLeDiff, Nat.reduceEqDiff, Nat.reduceAdd, ↓reduceIte, undef, hn, h0, h1, of0, of2, of3, of4, p0, p2, p3, p4, eL.lenA Try.underlying23, eD.lenA Try.underlying24, eb.lenA Try.underlying22, not_true_eq_false, not_false_eq_true, eq_false cL, eq_true cD, hH.trans (decide_eq_true hh), eq_true cB, eq_true c4]
       exact hQ _ _ ⟨rfl, by simp only [get_put, n_put, ↓reduceIte, Nat.reduceEqDiff, hn], by simp only [get_put, n_put, ↓reduceIte, Nat.reduceEqDiff, h1], by simp only [get_put, n_put, ↓reduceIte, Nat.reduceEqDiff], false, by simp only [get_put, n_put, ↓reduceIte, Nat.reduceEqDiff], ⟨fun h => by (cases h), fun h => absurd h (by omega)⟩⟩
      ·by_cases c5 : k = 5
       ·simp -implicitDefEqProofs (disch := omega) only [allW, allR, oneOf, evalAll, partsA, optA, Nat.reduceLT, Nat.reduceLeDiff, Nat.reduceEqDiff, Nat.reduceAdd, ↓reduceIte, undef, hn, h0, h1, of0, of2, of3, of4, p0, p2, p3, p4, eL.lenA Try.underlying23, eD.lenA Try.underlying24, eb.lenA Try.underlying22, not_true_eq_false, not_false_eq_true, eq_false cL, eq_true cD, hH.trans (decide_eq_true hh), eq_true cB, eq_false c4, eq_true c5]
        exact hQ _ _ ⟨rfl, by simp only [get_put, n_put, ↓reduceIte, Nat.reduceEqDiff, hn], by simp only [get_put, n_put, ↓reduceIte, Nat.reduceEqDiff, h1], by simp only [get_put, n_put, ↓reduceIte, Nat.reduceEqDiff], false, by simp only [get_put, n_put, ↓reduceIte, Nat.reduceEqDiff], ⟨fun h => by (cases h), fun h => absurd h (by omega)⟩⟩
       ·by_cases c8 : k = 8
        ·simp -implicitDefEqProofs (disch := omega) only [allW, allR, oneOf, evalAll, partsA, optA, Nat.reduceLT, Nat.reduceLeDiff, Nat.reduceEqDiff, Nat.reduceAdd, ↓reduceIte, undef, hn, h0, h1, of0, of2, of3, of4, p0, p2, p3, p4, eL.lenA Try.underlying23, eD.lenA Try.underlying24, eb.lenA Try.underlying22, not_true_eq_false, not_false_eq_true, eq_false cL, eq_true cD, hH.trans (decide_eq_true hh), eq_true cB, eq_false c4, eq_false c5, eq_true c8]
         exact hQ _ _ ⟨rfl, by simp only [get_put, n_put, ↓reduceIte, Nat.reduceEqDiff, hn], by simp only [get_put, n_put, ↓reduceIte, Nat.reduceEqDiff, h1], by simp only [get_put, n_put, ↓reduceIte, Nat.reduceEqDiff], false, by simp only [get_put, n_put, ↓reduceIte, Nat.reduceEqDiff], ⟨fun h => by (cases h), fun h => absurd h (by omega)⟩⟩
        ·simp -implicitDefEqProofs (disch := omega) only [allW, allR, oneOf, evalAll, partsA, optA, Nat.reduceLT, Nat.reduceLeDiff, Nat.reduceEqDiff, Nat.reduceAdd, ↓reduceIte, undef, hn, h0, h1, of0, of2, of3, of4, p0, p2, p3, p4, eL.lenA Try.underlying23, eD.lenA Try.underlying24, eb.lenA Try.underlying22, not_true_eq_false, not_false_eq_true, eq_false cL, eq_true cD, hH.trans (decide_eq_true hh), eq_true cB, eq_false c4, eq_false c5, eq_false c8]
         exact hQ _ _ ⟨rfl, by simp only [get_put, n_put, ↓reduceIte, Nat.reduceEqDiff, hn], by simp only [get_put, n_put, ↓reduceIte, Nat.reduceEqDiff, h1], by simp only [get_put, n_put, ↓reduceIte, Nat.reduceEqDiff], true, by simp only [get_put, n_put, ↓reduceIte, Nat.reduceEqDiff], ⟨fun _ => by omega, fun _ => rfl⟩⟩
     ·simp -implicitDefEqProofs (disch := omega) only [allW, allR, oneOf, evalAll, partsA, optA, Nat.reduceLT, Nat.reduceLeDiff, Nat.reduceEqDiff, Nat.reduceAdd, ↓reduceIte, undef, hn, h0, h1, of0, of2, of3, of4, p0, p2, p3, p4, eL.lenA Try.underlying23, eD.lenA Try.underlying24, eb.lenA Try.underlying22, not_true_eq_false, not_false_eq_true, eq_false cL, eq_true cD, hH.trans (decide_eq_true hh), eq_false cB]
      exact hQ _ _ ⟨rfl, by simp only [get_put, n_put, ↓reduceIte, Nat.reduceEqDiff, hn], by simp only [get_put, n_put, ↓reduceIte, Nat.reduceEqDiff, h1], by simp only [get_put, n_put, ↓reduceIte, Nat.reduceEqDiff], false, by simp only [get_put, n_put, ↓reduceIte, Nat.reduceEqDiff], ⟨fun h => by (cases h), fun h => absurd h (by omega)⟩⟩
    ·simp -implicitDefEqProofs (disch := omega) only [allW, allR, oneOf, evalAll, partsA, optA, Nat.reduceLT, Nat.reduceLeDiff, Nat.reduceEqDiff, Nat.reduceAdd, ↓reduceIte, undef, hn, h0, h1, of0, of2, of3, of4, p0, p2, p3, p4, eL.lenA Try.underlying23, eD.lenA Try.underlying24, eb.lenA Try.underlying22, not_true_eq_false, not_false_eq_true, eq_false cL, eq_true cD, hH.trans (decide_eq_false hh)]
     exact hQ _ _ ⟨rfl, by simp only [get_put, n_put, ↓reduceIte, Nat.reduceEqDiff, hn], by simp only [get_put, n_put, ↓reduceIte, Nat.reduceEqDiff, h1], by simp only [get_put, n_put, ↓reduceIte, Nat.reduceEqDiff], true, by simp only [get_put, n_put, ↓reduceIte, Nat.reduceEqDiff], ⟨fun _ => by omega, fun _ => rfl⟩⟩
   ·by_cases cB : (0 : Int) < ((b.length : Nat) : Int)
    ·by_cases c4 : k = 4
     ·simp -implicitDefEqProofs (disch := omega) only [allW, allR, oneOf, evalAll, partsA, optA, Nat.reduceLT, Nat.reduceLeDiff, Nat.reduceEqDiff, Nat.reduceAdd, ↓reduceIte, undef, hn, h0, h1, of0, of2, of3, of4, p0, p2, p3, p4, eL.lenA Try.underlying23, eD.lenA Try.underlying24, eb.lenA Try.underlying22, not_true_eq_false, not_false_eq_true, eq_false cL, eq_false cD, eq_true cB, eq_true c4]
      exact hQ _ _ ⟨rfl, by simp only [get_put, n_put, ↓reduceIte, Nat.reduceEqDiff, hn], by simp only [get_put, n_put, ↓reduceIte, Nat.reduceEqDiff, h1], by simp only [get_put, n_put, ↓reduceIte, Nat.reduceEqDiff], false, by simp only [get_put, n_put, ↓reduceIte, Nat.reduceEqDiff], ⟨fun h => by (cases h), fun h => absurd h (by omega)⟩⟩
     ·by_cases c5 : k = 5
      ·simp -implicitDefEqProofs (disch := omega) only [allW, allR, oneOf, evalAll, partsA, optA, Nat.reduceLT, Nat.reduceLeDiff, Nat.reduceEqDiff, Nat.reduceAdd, ↓reduceIte, undef, hn, h0, h1, of0, of2, of3, of4, p0, p2, p3, p4, eL.lenA Try.underlying23, eD.lenA Try.underlying24, eb.lenA Try.underlying22, not_true_eq_false, not_false_eq_true, eq_false cL, eq_false cD, eq_true cB, eq_false c4, eq_true c5]
       exact hQ _ _ ⟨rfl, by simp only [get_put, n_put, ↓reduceIte, Nat.reduceEqDiff, hn], by simp only [get_put, n_put, ↓reduceIte, Nat.reduceEqDiff, h1], by simp only [get_put, n_put, ↓reduceIte, Nat.reduceEqDiff], false, by simp only [get_put, n_put, ↓reduceIte, Nat.reduceEqDiff], ⟨fun h => by (cases h), fun h => absurd h (by omega)⟩⟩
      ·by_cases c8 : k = 8
       ·simp -implicitDefEqProofs (disch := omega) only [allW, allR, oneOf, evalAll, partsA, optA, Nat.reduceLT, Nat.reduceLeDiff, Nat.reduceEqDiff, Nat.reduceAdd, ↓reduceIte, undef, hn, h0, h1, of0, of2, of3, of4, p0, p2, p3, p4, eL.lenA Try.underlying23, eD.lenA Try.underlying24, eb.lenA Try.underlying22, not_true_eq_false, not_false_eq_true, eq_false cL, eq_false cD, eq_true cB, eq_false c4, eq_false c5, eq_true c8]
        exact hQ _ _ ⟨rfl, by simp only [get_put, n_put, ↓reduceIte, Nat.reduceEqDiff, hn], by simp only [get_put, n_put, ↓reduceIte, Nat.reduceEqDiff, h1], by simp only [get_put, n_put, ↓reduceIte, Nat.reduceEqDiff], false, by simp only [get_put, n_put, ↓reduceIte, Nat.reduceEqDiff], ⟨fun h => by (cases h), fun h => absurd h (by omega)⟩⟩
       ·simp -implicitDefEqProofs (disch := omega) only [allW, allR, oneOf, evalAll, partsA, optA, Nat.reduceLT, Nat.reduceLeDiff, Nat.reduceEqDiff, Nat.reduceAdd, ↓reduceIte, undef, hn, h0, h1, of0, of2, of3, of4, p0, p2, p3, p4, eL.lenA Try.underlying23, eD.lenA Try.underlying24, eb.lenA Try.underlying22, not_true_eq_false, not_false_eq_true, eq_false cL, eq_false cD, eq_true cB, eq_false c4, eq_false c5, eq_false c8]
        exact hQ _ _ ⟨rfl, by simp only [get_put, n_put, ↓reduceIte, Nat.reduceEqDiff, hn], by simp only [get_put, n_put, ↓reduceIte, Nat.reduceEqDiff, h1], by simp only [get_put, n_put, ↓reduceIte, Nat.reduceEqDiff], true, by simp only [get_put, n_put, ↓reduceIte, Nat.reduceEqDiff], ⟨fun _ => by omega, fun _ => rfl⟩⟩
    ·simp -implicitDefEqProofs (disch := omega) only [allW, allR, oneOf, evalAll, partsA, optA, Nat.reduceLT, Nat.reduceLeDiff, Nat.reduceEqDiff, Nat.reduceAdd, ↓reduceIte, undef, hn, h0, h1, of0, of2, of3, of4, p0, p2, p3, p4, eL.lenA Try.underlying23, eD.lenA Try.underlying24, eb.lenA Try.underlying22, not_true_eq_false, not_false_eq_true, eq_false cL, eq_false cD, eq_false cB]
     exact hQ _ _ ⟨rfl, by simp only [get_put, n_put, ↓reduceIte, Nat.reduceEqDiff, hn], by simp only [get_put, n_put, ↓reduceIte, Nat.reduceEqDiff, h1], by simp only [get_put, n_put, ↓reduceIte, Nat.reduceEqDiff], false, by simp only [get_put, n_put, ↓reduceIte, Nat.reduceEqDiff], ⟨fun h => by (cases h), fun h => absurd h (by omega)⟩⟩
 clear hn h0 h1 f
 rintro f s3 ⟨rfl, hn, h1, h2, t, h48, ht⟩
 cases t with
 | true =>
  have hbad := ht.1 rfl
  simp -implicitDefEqProofs (disch := omega) only [allW, allR, wfn_ret, wfn_normal, oneOf, evalAll, partsA, optA, Nat.reduceLT, Nat.reduceLeDiff, Nat.reduceEqDiff, Nat.reduceAdd, ↓reduceIte, hn, h48, Try.results48]
  rw [hQQ]
  refine ⟨.no (fun h => ?_), hs02⟩
  obtain ⟨u1, u2, u3, -⟩ := mayO_iff.1 h
  rcases hbad with ⟨v1, v2⟩ | ⟨v1, v2⟩ | ⟨v1, v2⟩
  ·exact v2 (u1 (fun e => by rw [e] at v1; simp at v1))
  ·exact v2 (u2 (fun e => by rw [e] at v1; simp at v1))
  ·have := u3 (fun e => by rw [e] at v1; simp at v1); omega
 | false =>
  have hgood : ¬ _ := fun h => Bool.noConfusion (ht.2 h)
  have g1 : l ≠ [] -> k = 6 := fun h => by
   have : 0 < l.length := List.length_pos_iff.2 h
   omega
  have g2 : d ≠ [] -> k = 7 ∨ k = 8 := fun h => by
   have : 0 < d.length := List.length_pos_iff.2 h
   omega
  have g3 : b ≠ [] -> k = 4 ∨ k = 5 ∨ k = 8 := fun h => by
   have : 0 < b.length := List.length_pos_iff.2 h
   omega
  have hend : ∀ (f : AFr) (s6 : ASt) (t : Bool), Stay s.next s s6 -> f.n = 143 -> f.get 4 = .bool t -> (t = true ↔ MayO p (.mk k n b l d)) -> wfn Try.prog Try.f48.results.toList QQ .ret f s6 := by
   intro f s6 t hs hn h4 ht
   simp -implicitDefEqProofs (disch := omega) only [allW, allR, wfn_ret, wfn_normal, oneOf, evalAll, partsA, optA, Nat.reduceLT, Nat.reduceLeDiff, Nat.reduceEqDiff, Nat.reduceAdd, ↓reduceIte, hn, h4, Try.results48]
   rw [hQQ]
   exact ⟨⟨t, rfl, ht⟩, hs⟩
  clear hgood ht
  by_cases c1 : k = 1
  ·by_cases d0 : n = 0
   ·simp -implicitDefEqProofs (disch := omega) only [allW, allR, oneOf, evalAll, partsA, optA, Nat.reduceLT, Nat.reduceLeDiff, Nat.reduceEqDiff, Nat.reduceAdd, ↓reduceIte, undef, hn, h1, h2, h48, of0, of1, p0, p1, eq_true c1, eq_true d0]
    exact hend _ _ true hs02 (by simp only [get_put, n_put, ↓reduceIte, Nat.reduceEqDiff, hn]) (by simp only [get_put, n_put, ↓reduceIte, Nat.reduceEqDiff]) ⟨fun _ => (may_1 g1 g2 g3 c1).2 (.inl d0), fun _ => rfl⟩
   simp -implicitDefEqProofs (disch := omega) only [allW, allR, oneOf, evalAll, partsA, optA, Nat.reduceLT, Nat.reduceLeDiff, Nat.reduceEqDiff, Nat.reduceAdd, ↓reduceIte, undef, hn, h1, h2, h48, of0, of1, p0, p1, eq_true c1, eq_false d0]
   exact hend _ _ (decide (n = 1)) hs02 (by simp only [get_put, n_put, ↓reduceIte, Nat.reduceEqDiff, hn]) (by simp only [get_put, n_put, ↓reduceIte, Nat.reduceEqDiff]) ⟨fun h => (may_1 g1 g2 g3 c1).2 (.inr (of_decide_eq_true h)), fun h => decide_eq_true (((may_1 g1 g2 g3 c1).1 h).resolve_left d0)⟩
  by_cases c2 : k = 2
  ·by_cases d0 : -2147483647 ≤ n
   ·simp -implicitDefEqProofs (disch := omega) only [allW, allR, oneOf, evalAll, partsA, optA, Nat.reduceLT, Nat.reduceLeDiff, Nat.reduceEqDiff, Nat.reduceAdd, ↓reduceIte, undef, hn, h1, h2, h48, of0, of1, p0, p1, eq_false c1, eq_true c2, ge_iff_le, eq_true d0]
    exact hend _ _ (decide (n ≤ 2147483647)) hs02 (by simp only [get_put, n_put, ↓reduceIte, Nat.reduceEqDiff, hn]) (by simp only [get_put, n_put, ↓reduceIte, Nat.reduceEqDiff]) ⟨fun h => (may_2 g1 g2 g3 c2).2 ⟨d0, of_decide_eq_true h⟩, fun h => decide_eq_true ((may_2 g1 g2 g3 c2).1 h).2⟩
   simp -implicitDefEqProofs (disch := omega) only [allW, allR, oneOf, evalAll, partsA, optA, Nat.reduceLT, Nat.reduceLeDiff, Nat.reduceEqDiff, Nat.reduceAdd, ↓reduceIte, undef, hn, h1, h2, h48, of0, of1, p0, p1, eq_false c1, eq_true c2, ge_iff_le, eq_false d0]
   exact hend _ _ false hs02 (by simp only [get_put, n_put, ↓reduceIte, Nat.reduceEqDiff, hn]) (by simp only [get_put, n_put, ↓reduceIte, Nat.reduceEqDiff]) ⟨fun h => by (cases h), fun h => absurd ((may_2 g1 g2 g3 c2).1 h).1 d0⟩
  by_cases c3 : k = 3
  ·simp -implicitDefEqProofs (disch := omega) only [allW, allR, oneOf, evalAll, partsA, optA, Nat.reduceLT, Nat.reduceLeDiff, Nat.reduceEqDiff, Nat.reduceAdd, ↓reduceIte, undef, hn, h1, h2, h48, of0, of1, p0, p1, eq_false c1, eq_false c2, eq_true c3]
   refine (rin_any hl2 s3 n).mono ?_
   rintro _ _ ⟨rfl, rfl⟩
   simp -implicitDefEqProofs (disch := omega) only [allW, allR, oneOf, evalAll, partsA, optA, Nat.reduceLT, Nat.reduceLeDiff, Nat.reduceEqDiff, Nat.reduceAdd, ↓reduceIte, undef, hn, h1, h2]
   exact hend _ _ (decide (-214748364799999 ≤ n ∧ n ≤ 214748364799999)) hs02 (by simp only [get_put, n_put, ↓reduceIte, Nat.reduceEqDiff, hn]) (by simp only [get_put, n_put, ↓reduceIte, Nat.reduceEqDiff]) ⟨fun h => (may_3 g1 g2 g3 c3).2 (of_decide_eq_true h), fun h => decide_eq_true ((may_3 g1 g2 g3 c3).1 h)⟩
  by_cases c9 : k = 9
  ·by_cases d0 : 1 ≤ n
   ·simp -implicitDefEqProofs (disch := omega) only [allW, allR, oneOf, evalAll, partsA, optA, Nat.reduceLT, Nat.reduceLeDiff, Nat.reduceEqDiff, Nat.reduceAdd, ↓reduceIte, undef, hn, h1, h2, h48, of0, of1, p0, p1, eq_false c1, eq_false c2, eq_false c3, eq_true c9, ge_iff_le, eq_true d0]
    exact hend _ _ (decide (n ≤ 8388607)) hs02 (by simp only [get_put, n_put, ↓reduceIte, Nat.reduceEqDiff, hn]) (by simp only [get_put, n_put, ↓reduceIte, Nat.reduceEqDiff]) ⟨fun h => (may_9 g1 g2 g3 c9).2 ⟨d0, of_decide_eq_true h⟩, fun h => decide_eq_true ((may_9 g1 g2 g3 c9).1 h).2⟩
   simp -implicitDefEqProofs (disch := omega) only [allW, allR, oneOf, evalAll, partsA, optA, Nat.reduceLT, Nat.reduceLeDiff, Nat.reduceEqDiff, Nat.reduceAdd, ↓reduceIte, undef, hn, h1, h2, h48, of0, of1, p0, p1, eq_false c1, eq_false c2, eq_false c3, eq_true c9, ge_iff_le, eq_false d0]
   exact hend _ _ false hs02 (by simp only [get_put, n_put, ↓reduceIte, Nat.reduceEqDiff, hn]) (by simp only [get_put, n_put, ↓reduceIte, Nat.reduceEqDiff]) ⟨fun h => by (cases h), fun h => absurd ((may_9 g1 g2 g3 c9).1 h).1 d0⟩
  by_cases hz : n = 0
  rotate_left
  ·simp -implicitDefEqProofs (disch := omega) only [allW, allR, oneOf, evalAll, partsA, optA, Nat.reduceLT, Nat.reduceLeDiff, Nat.reduceEqDiff, Nat.reduceAdd, ↓reduceIte, undef, hn, h1, h2, h48, of0, of1, p0, p1, eq_false c1, eq_false c2, eq_false c3, eq_false c9, eq_false hz, not_false_eq_true]
   exact hend _ _ false hs02 (by simp only [get_put, n_put, ↓reduceIte, Nat.reduceEqDiff, hn]) (by simp only [get_put, n_put, ↓reduceIte, Nat.reduceEqDiff]) ⟨fun h => by (cases h), fun h => absurd (may_n h c1 c2 c3 c9) hz⟩
  by_cases c0 : k = 0
  ·simp -implicitDefEqProofs (disch := omega) only [allW, allR, oneOf, evalAll, partsA, optA, Nat.reduceLT, Nat.reduceLeDiff, Nat.reduceEqDiff, Nat.reduceAdd, ↓reduceIte, undef, hn, h1, h2, h48, of0, of1, p0, p1, eq_false c1, eq_false c2, eq_false c3, eq_false c9, eq_true hz, not_true_eq_false, eq_true c0]
   exact hend _ _ true hs02 (by simp only [get_put, n_put, ↓reduceIte, Nat.reduceEqDiff, hn]) (by simp only [get_put, n_put, ↓reduceIte, Nat.reduceEqDiff]) ⟨fun _ => may_0 g1 g2 g3 c0 hz, fun _ => rfl⟩
  by_cases c4 : k = 4
  ·simp -implicitDefEqProofs (disch := omega) only [allW, allR, oneOf, evalAll, partsA, optA, Nat.reduceLT, Nat.reduceLeDiff, Nat.reduceEqDiff, Nat.reduceAdd, ↓reduceIte, undef, hn, h1, h2, h48, of0, of1, of2, p0, p1, p2, eb.lenA Try.underlying22, eq_false c1, eq_false c2, eq_false c3, eq_false c9, eq_true hz, not_true_eq_false, eq_false c0, eq_true c4]
   exact hend _ _ (decide (((b.length : Nat) : Int) ≤ 32767)) hs02 (by simp only [get_put, n_put, ↓reduceIte, Nat.reduceEqDiff, hn]) (by simp only [get_put, n_put, ↓reduceIte, Nat.reduceEqDiff]) ⟨fun h => (may_4 g1 g2 g3 c4 hz).2 (by have := of_decide_eq_true h; omega), fun h => decide_eq_true (by have := (may_4 g1 g2 g3 c4 hz).1 h; omega)⟩
  by_cases c5 : k = 5
  ·simp -implicitDefEqProofs (disch := omega) only [allW, allR, oneOf, evalAll, partsA, optA, Nat.reduceLT, Nat.reduceLeDiff, Nat.reduceEqDiff, Nat.reduceAdd, ↓reduceIte, undef, hn, h1, h2, h48, of0, of1, of2, p0, p1, p2, eq_false c1, eq_false c2, eq_false c3, eq_false c9, eq_true hz, not_true_eq_false, eq_false c0, eq_false c4, eq_true c5]
   refine (rname_any hl3 s3 bv b eb).mono ?_
   rintro _ _ ⟨⟨t, rfl, ht⟩, rfl⟩
   simp -implicitDefEqProofs (disch := omega) only [allW, allR, oneOf, evalAll, partsA, optA, Nat.reduceLT, Nat.reduceLeDiff, Nat.reduceEqDiff, Nat.reduceAdd, ↓reduceIte, undef, hn, h1, h2]
   exact hend _ _ t hs02 (by simp only [get_put, n_put, ↓reduceIte, Nat.reduceEqDiff, hn]) (by simp only [get_put, n_put, ↓reduceIte, Nat.reduceEqDiff]) (ht.trans (may_5 g1 g2 g3 c5 hz).symm)
  by_cases c6 : k = 6
  ·simp -implicitDefEqProofs (disch := omega) only [allW, allR, oneOf, evalAll, partsA, optA, Nat.reduceLT, Nat.reduceLeDiff, Nat.reduceEqDiff, Nat.reduceAdd, ↓reduceIte, undef, hn, h1, h2, h48, of0, of1, p0, p1, eq_false c1, eq_false c2, eq_false c3, eq_false c9, eq_true hz, not_true_eq_false, eq_false c0, eq_false c4, eq_false c5, eq_true c6]
   refine Comes.loopOut (fun z f s6 => ∃ i : Nat, z = l.length - i ∧ i ≤ l.length ∧ (∀ j, j < i -> ∀ (h : j < l.length), l[j].kind ≠ 8 ∧ MayO (p - 1) l[j]) ∧ (0 < i -> 1 ≤ p) ∧ Thing s6 s.next [.int .i64 k, .int .i64 n, bv, lv, dv] ∧ Stay s.next s s6 ∧ f.n = 143 ∧ f.get 1 = .int .i64 p ∧ f.get 2 = .pointer (some ⟨s.next, 0, some 6⟩) ∧ f.get 6 = .int .i64 (i : Nat))
    (fun z f s6 => (z = .ret ∧ Stay s.next s s6 ∧ f.n = 143 ∧ f.get 4 = .bool false ∧ ¬ (1 ≤ p ∧ Inner p l)) ∨ (z = .exit 2 ∧ Inner p l ∧ Stay s.next s s6 ∧ f.n = 143 ∧ f.get 1 = .int .i64 p))
    ⟨0, rfl, by omega, fun j h => by omega, fun h => by omega, ht2, hs02, by simp only [get_put, n_put, ↓reduceIte, Nat.reduceEqDiff, hn], by simp only [get_put, n_put, ↓reduceIte, Nat.reduceEqDiff, h1], by simp only [get_put, n_put, ↓reduceIte, Nat.reduceEqDiff, h2], by simp only [get_put, n_put, ↓reduceIte, Nat.reduceEqDiff]; rfl⟩ ?_ ?_
   ·clear hn h1 h2 h48 f hend p0 p1 p2 p3 p4 la
    rintro Q hQ z f s6 ⟨i, rfl, hi, hP, hpp, ht, hs, hn, h1, h2, h6⟩
    have hL6 := hL.keeps hs
    have l6 : loadA Try.prog s6 23 (.pointer (some ⟨s.next, 3, some 6⟩)) = some lv := ht.load agLs (off := 3) (c := 6) rfl (by simp)
    by_cases hlt : i < l.length
    rotate_left
    ·obtain rfl : i = l.length := by omega
     have d1 : ¬ ((l.length : Nat) : Int) < ((l.length : Nat) : Int) := by omega
     simp -implicitDefEqProofs (disch := omega) only [allW, allR, oneOf, evalAll, partsA, optA, Nat.reduceLT, Nat.reduceLeDiff, Nat.reduceEqDiff, Nat.reduceAdd, ↓reduceIte, hn, h1, h2, h6, of3, l6, hL6.lenA Try.underlying23, eq_false d1]
     exact hQ _ _ _ (.inr ⟨rfl, fun j h => hP j h h, hs, by simp only [get_put, n_put, ↓reduceIte, Nat.reduceEqDiff, hn], by simp only [get_put, n_put, ↓reduceIte, Nat.reduceEqDiff, h1]⟩)
    have d1 : (i : Int) < (l.length : Int) := by omega
    have hix := hL6.indexAddr (P := Try.prog) (k := .i64) (x := (i : Int)) Try.underlying23 szO (by omega) (by omega)
    rw [Int.toNat_natCast] at hix
    have hld := hL6.loadAgg (P := Try.prog) agO szO hlt
    have hoi := (rl.row i hlt).keeps hs
    have hlk := hL6.loadField (P := Try.prog) agInt hlt (j := 0) (by omega)
    rw [Nat.add_zero, objKind hoi] at hlk
    have hef := efO hL6 hlt
    by_cases k8 : l[i].kind = 8
    ·simp -implicitDefEqProofs (disch := omega) only [allW, allR, oneOf, evalAll, partsA, optA, Nat.reduceLT, Nat.reduceLeDiff, Nat.reduceEqDiff, Nat.reduceAdd, ↓reduceIte, undef, hn, h1, h2, h6, of3, l6, hL6.lenA Try.underlying23, eq_true d1, hL6.self, hix, hef, hlk, eq_true k8]
     exact hQ _ _ _ (.inl ⟨rfl, hs, by simp only [get_put, n_put, ↓reduceIte, Nat.reduceEqDiff, hn], by simp only [get_put, n_put, ↓reduceIte, Nat.reduceEqDiff], fun h => (h.2 i hlt).1 k8⟩)
    by_cases kp : p < 1
    ·simp -implicitDefEqProofs (disch := omega) only [allW, allR, oneOf, evalAll, partsA, optA, Nat.reduceLT, Nat.reduceLeDiff, Nat.reduceEqDiff, Nat.reduceAdd, ↓reduceIte, undef, hn, h1, h2, h6, of3, l6, hL6.lenA Try.underlying23, eq_true d1, hL6.self, hix, hef, hlk, eq_false k8, eq_true kp]
     exact hQ _ _ _ (.inl ⟨rfl, hs, by simp only [get_put, n_put, ↓reduceIte, Nat.reduceEqDiff, hn], by simp only [get_put, n_put, ↓reduceIte, Nat.reduceEqDiff], fun h => by have := h.1; omega⟩)
    simp -implicitDefEqProofs (disch := omega) only [allW, allR, oneOf, evalAll, partsA, optA, Nat.reduceLT, Nat.reduceLeDiff, Nat.reduceEqDiff, Nat.reduceAdd, ↓reduceIte, undef, hn, h1, h2, h6, of3, l6, hL6.lenA Try.underlying23, eq_true d1, hL6.self, hix, hef, hlk, hld, hoi.self, eq_false k8, eq_false kp, wrapI]
    refine (ih l[i] (by have := O.items_lt (k := k) (n := n) (b := b) (l := l) (d := d) (List.getElem_mem hlt); omega) F s6 _ (p - 1) hoi (hfL _ (List.getElem_mem hlt)) (by omega) (by omega)).mono ?_
    rintro _ s7 ⟨⟨t, rfl, htt⟩, hs7⟩
    have hss := hs.trans (hs7.weaken hs.next)
    cases t with
    | false =>
     simp -implicitDefEqProofs (disch := omega) only [allW, allR, oneOf, evalAll, partsA, optA, Nat.reduceLT, Nat.reduceLeDiff, Nat.reduceEqDiff, Nat.reduceAdd, ↓reduceIte, undef, hn, h1, h2, h6]
     exact hQ _ _ _ (.inl ⟨rfl, hss, by simp only [get_put, n_put, ↓reduceIte, Nat.reduceEqDiff, hn], by simp only [get_put, n_put, ↓reduceIte, Nat.reduceEqDiff], fun h => by have := htt.2 (h.2 i hlt).2; cases this⟩)
    | true =>
     simp -implicitDefEqProofs (disch := omega) only [allW, allR, oneOf, evalAll, partsA, optA, Nat.reduceLT, Nat.reduceLeDiff, Nat.reduceEqDiff, Nat.reduceAdd, ↓reduceIte, undef, hn, h1, h2, h6, wrapI]
     exact wround_next (l.length - (i + 1)) (by omega) ⟨i + 1, rfl, by omega, upto_next hP (fun _ => ⟨k8, htt.1 rfl⟩), fun _ => by omega, ht.keeps hs7, hss, by simp only [get_put, n_put, ↓reduceIte, Nat.reduceEqDiff, hn], by simp only [get_put, n_put, ↓reduceIte, Nat.reduceEqDiff, h1], by simp only [get_put, n_put, ↓reduceIte, Nat.reduceEqDiff, h2], by simp only [get_put, n_put, ↓reduceIte, Nat.reduceEqDiff]; rfl⟩
   rintro z f' s6 (⟨rfl, hs, hn, h4, hne⟩ | ⟨rfl, hI, hs, hn, h1⟩)
   ·simp -implicitDefEqProofs (disch := omega) only [allW, allR, oneOf, evalAll, partsA, optA, Nat.reduceLT, Nat.reduceLeDiff, Nat.reduceEqDiff, Nat.reduceAdd, ↓reduceIte]
    exact hend _ _ false hs hn h4 ⟨fun h => by (cases h), fun h => absurd ((may_6 g1 g2 g3 c6 hz).1 h) hne⟩
   simp -implicitDefEqProofs (disch := omega) only [allW, allR, oneOf, evalAll, partsA, optA, Nat.reduceLT, Nat.reduceLeDiff, Nat.reduceEqDiff, Nat.reduceAdd, ↓reduceIte, hn, h1, ge_iff_le]
   exact hend _ _ (decide (1 ≤ p)) hs (by simp only [get_put, n_put, ↓reduceIte, Nat.reduceEqDiff, hn]) (by simp only [get_put, n_put, ↓reduceIte, Nat.reduceEqDiff]) ⟨fun h => (may_6 g1 g2 g3 c6 hz).2 ⟨of_decide_eq_true h, hI⟩, fun h => decide_eq_true ((may_6 g1 g2 g3 c6 hz).1 h).1⟩
  by_cases c7 : k = 7
  ·have la2 := Thing.loadAll (P := Try.prog) (cs := [.int .i64 k, .int .i64 n, bv, lv, dv]) agO szO ht2 (c := 6) rfl
   simp -implicitDefEqProofs (disch := omega) only [allW, allR, oneOf, evalAll, partsA, optA, Nat.reduceLT, Nat.reduceLeDiff, Nat.reduceEqDiff, Nat.reduceAdd, ↓reduceIte, undef, hn, h1, h2, h48, of0, of1, p0, p1, la2, eq_false c1, eq_false c2, eq_false c3, eq_false c9, eq_true hz, not_true_eq_false, eq_false c0, eq_false c4, eq_false c5, eq_false c6, eq_true c7]
   refine (rents_any hl4 hl3 F s3 k n p b l d _ (ho.keeps hs02) (.mk hfb hfl hfd hfK hfL hfD) hp0 hp1 (fun i h s' r hp hs' hr => ih d[i].2 (by have := O.ents_lt (k := k) (n := n) (b := b) (l := l) (d := d) (List.getElem_mem h); omega) F s' r (p - 1) hr (hfD _ (List.getElem_mem h)) (by omega) (by omega))).mono ?_
   rintro _ s7 ⟨⟨t, rfl, ht⟩, hs7⟩
   simp -implicitDefEqProofs (disch := omega) only [allW, allR, oneOf, evalAll, partsA, optA, Nat.reduceLT, Nat.reduceLeDiff, Nat.reduceEqDiff, Nat.reduceAdd, ↓reduceIte, undef, hn, h1, h2]
   exact hend _ _ t (hs02.trans (hs7.weaken hs02.next)) (by simp only [get_put, n_put, ↓reduceIte, Nat.reduceEqDiff, hn]) (by simp only [get_put, n_put, ↓reduceIte, Nat.reduceEqDiff]) (ht.trans (may_7 g1 g2 g3 (by omega) hz).symm)
  by_cases c8 : k = 8
  ·have la2 := Thing.loadAll (P := Try.prog) (cs := [.int .i64 k, .int .i64 n, bv, lv, dv]) agO szO ht2 (c := 6) rfl
   simp -implicitDefEqProofs (disch := omega) only [allW, allR, oneOf, evalAll, partsA, optA, Nat.reduceLT, Nat.reduceLeDiff, Nat.reduceEqDiff, Nat.reduceAdd, ↓reduceIte, undef, hn, h1, h2, h48, of0, of1, p0, p1, la2, eq_false c1, eq_false c2, eq_false c3, eq_false c9, eq_true hz, not_true_eq_false, eq_false c0, eq_false c4, eq_false c5, eq_false c6, eq_false c7, eq_true c8]
   refine (rents_any hl4 hl3 F s3 k n p b l d _ (ho.keeps hs02) (.mk hfb hfl hfd hfK hfL hfD) hp0 hp1 (fun i h s' r hp hs' hr => ih d[i].2 (by have := O.ents_lt (k := k) (n := n) (b := b) (l := l) (d := d) (List.getElem_mem h); omega) F s' r (p - 1) hr (hfD _ (List.getElem_mem h)) (by omega) (by omega))).mono ?_
   rintro _ s7 ⟨⟨t, rfl, ht⟩, hs7⟩
   simp -implicitDefEqProofs (disch := omega) only [allW, allR, oneOf, evalAll, partsA, optA, Nat.reduceLT, Nat.reduceLeDiff, Nat.reduceEqDiff, Nat.reduceAdd, ↓reduceIte, undef, hn, h1, h2]
   exact hend _ _ t (hs02.trans (hs7.weaken hs02.next)) (by simp only [get_put, n_put, ↓reduceIte, Nat.reduceEqDiff, hn]) (by simp only [get_put, n_put, ↓reduceIte, Nat.reduceEqDiff]) (ht.trans (may_7 g1 g2 g3 (by omega) hz).symm)
  simp -implicitDefEqProofs (disch := omega) only [allW, allR, oneOf, evalAll, partsA, optA, Nat.reduceLT, Nat.reduceLeDiff, Nat.reduceEqDiff, Nat.reduceAdd, ↓reduceIte, undef, hn, h1, h2, h48, of0, of1, p0, p1, eq_false c1, eq_false c2, eq_false c3, eq_false c9, eq_true hz, not_true_eq_false, eq_false c0, eq_false c4, eq_false c5, eq_false c6, eq_false c7, eq_false c8]
  exact hend _ _ false hs02 (by simp only [get_put, n_put, ↓reduceIte, Nat.reduceEqDiff, hn]) (by simp only [get_put, n_put, ↓reduceIte, Nat.reduceEqDiff]) ⟨fun h => by (cases h), fun h => by have := may_k h; omega⟩
theorem rmayTop_any {lib : Prims} (hl : lib.at 17 = none) (hl0 : lib.at 48 = none) (hl1 : lib.at 63 = none) (hl2 : lib.at 64 = none) (hl3 : lib.at 65 = none) (hl4 : lib.at 66 = none) (o : O) (F : Nat -> Prop) (s : ASt) (cs : List Value) (ho : OIs F s cs o) (hf : Fit o) :
  Runs Try.prog lib 17 [.agg cs.toArray] s fun v s' => Answers (MayO 28 o) v ∧ Stay s.next s s' := by
 obtain ⟨QQ, hQQ⟩ : ∃ QQ : Value -> ASt -> Prop, QQ = fun v s' => Answers (MayO 28 o) v ∧ Stay s.next s s' := ⟨_, rfl⟩
 rw [← hQQ]
 have hcl := ho.len
 refine Runs.enter 5 Try.func17 rfl hl rfl rfl ?_
 intro f hn hf
 have h0 : f.get 0 = .agg cs.toArray := hf 0
 clear hf
 simp -implicitDefEqProofs (disch := omega) only [allW, allR, oneOf, evalAll, partsA, optA, Nat.reduceLT, Nat.reduceLeDiff, Nat.reduceEqDiff, Nat.reduceAdd, ↓reduceIte, hn, h0]
 refine wstep_newPtr ?_
 intro s1 ht1 hst1 hnx1
 have la : loadA Try.prog s1 26 (.pointer (some ⟨s.next, 0, some (cs.length + 1)⟩)) = some (.agg cs.toArray) := Thing.loadAll (P := Try.prog) agO (by rw [hcl]; exact szO) ht1 rfl
 simp -implicitDefEqProofs (disch := omega) only [allW, allR, oneOf, evalAll, partsA, optA, Nat.reduceLT, Nat.reduceLeDiff, Nat.reduceEqDiff, Nat.reduceAdd, ↓reduceIte, hn, h0, la]
 refine (rmay_any hl0 hl1 hl2 hl3 hl4 _ o (Nat.le_refl _) F s1 cs 28 (ho.keeps hst1) hf (by omega) (by omega)).mono ?_
 rintro v s2 ⟨h, hs2⟩
 simp -implicitDefEqProofs (disch := omega) only [allW, allR, wfn_ret, wfn_normal, oneOf, evalAll, partsA, optA, Nat.reduceLT, Nat.reduceLeDiff, Nat.reduceEqDiff, Nat.reduceAdd, ↓reduceIte, hn, Try.results17]
 rw [hQQ]
 exact ⟨h, hst1.trans (hs2.weaken hst1.next)⟩
end Go.Proofs.Ythlbahnfimigcaa