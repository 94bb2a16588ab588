/-
  Objects: awake; what is called.
-/
import Derived.Test.YtdhdhbkikhedlaaCosO
import Derived.Test.YtdhdhbkikhedlaaBuild
set_option linter.unusedSimpArgs false
set_option linter.unusedVariables false
set_option maxRecDepth 100000
namespace Go.Proofs.Ytdhdhbkikhedlaa
open Go.Cl Go.Lib
theorem awakeD : putAll [] [([66], .mk 2 2 [] [] []), ([65], .mk 2 1 [] [] []), ([66], O.none)] = [([65], .mk 2 1 [] [] [])] := by rfl
def Yes (s : ASt) (v : Value) (s' : ASt) : Prop := v = .bool true ∧ Stay s.next s s'
set_option maxHeartbeats 4000000 in
theorem awake_any {lib : Prims} (hl : lib.at 9 = none) (L : LibC lib) (s : ASt) : Runs Try.prog lib 9 [] s (Yes s) := by
  refine Runs.enter 33 Try.func9 rfl hl rfl rfl ?_
  intro f hn _
  simp (config := { maxSteps := 1000000, implicitDefEqProofs := false }) (disch := omega) only [allW, allR, oneOf, evalAll, partsA, optA, Nat.reduceLT, Nat.reduceLeDiff, Nat.reduceEqDiff, Nat.reduceAdd, ↓reduceIte, hn]
  refine (int_any L.int s 2).mono ?_
  rintro _ s1 ⟨c1, rfl, o1, h1⟩
  simp (config := { maxSteps := 1000000, implicitDefEqProofs := false }) (disch := omega) only [allW, allR, oneOf, evalAll, partsA, optA, Nat.reduceLT, Nat.reduceLeDiff, Nat.reduceEqDiff, Nat.reduceAdd, ↓reduceIte, hn]
  refine (pair_any L.pair L.copy L.clone _ s1 [66] c1 _ o1 (Small.bare 2 2)).mono ?_
  rintro _ s2 ⟨p1, rfl, e1, h2⟩
  simp (config := { maxSteps := 1000000, implicitDefEqProofs := false }) (disch := omega) only [allW, allR, oneOf, evalAll, partsA, optA, Nat.reduceLT, Nat.reduceLeDiff, Nat.reduceEqDiff, Nat.reduceAdd, ↓reduceIte, hn]
  refine (int_any L.int s2 1).mono ?_
  rintro _ s3 ⟨c2, rfl, o2, h3⟩
  simp (config := { maxSteps := 1000000, implicitDefEqProofs := false }) (disch := omega) only [allW, allR, oneOf, evalAll, partsA, optA, Nat.reduceLT, Nat.reduceLeDiff, Nat.reduceEqDiff, Nat.reduceAdd, ↓reduceIte, hn]
  refine (pair_any L.pair L.copy L.clone _ s3 [65] c2 _ o2 (Small.bare 2 1)).mono ?_
  rintro _ s4 ⟨p2, rfl, e2, h4⟩
  simp (config := { maxSteps := 1000000, implicitDefEqProofs := false }) (disch := omega) only [allW, allR, oneOf, evalAll, partsA, optA, Nat.reduceLT, Nat.reduceLeDiff, Nat.reduceEqDiff, Nat.reduceAdd, ↓reduceIte, hn]
  refine (none_any L.nothing s4).mono ?_
  rintro _ s5 ⟨c3, rfl, o3, h5⟩
  simp (config := { maxSteps := 1000000, implicitDefEqProofs := false }) (disch := omega) only [allW, allR, oneOf, evalAll, partsA, optA, Nat.reduceLT, Nat.reduceLeDiff, Nat.reduceEqDiff, Nat.reduceAdd, ↓reduceIte, hn]
  refine (pair_any L.pair L.copy L.clone _ s5 [66] c3 _ o3 Small.none).mono ?_
  rintro _ s6 ⟨p3, rfl, e3, h6⟩
  have q1 := e1.len
  have q2 := e2.len
  have q3 := e3.len
  simp (config := { maxSteps := 1000000, implicitDefEqProofs := false }) (disch := omega) only [allW, allR, oneOf, evalAll, partsA, optA, Nat.reduceLT, Nat.reduceLeDiff, Nat.reduceEqDiff, Nat.reduceAdd, ↓reduceIte, hn, buildAgg3 (a := (.string ⟨([66] : List UInt8).toArray⟩ :: p1).toArray) (b := (.string ⟨([65] : List UInt8).toArray⟩ :: p2).toArray) (c := (.string ⟨([66] : List UInt8).toArray⟩ :: p3).toArray) Try.underlying24 szE zE plE rfl (by simp [q1]) (by simp [q2]) (by simp [q3]) (by decide)]
  refine wstep_newSlice (by simp [q1, q2, q3]) ?_
  intro x s7 hx hxF h7
  simp (config := { maxSteps := 1000000, implicitDefEqProofs := false }) (disch := omega) only [allW, allR, oneOf, evalAll, partsA, optA, Nat.reduceLT, Nat.reduceLeDiff, Nat.reduceEqDiff, Nat.reduceAdd, ↓reduceIte, hn]
  have n2 := h2.next
  have n3 := h3.next
  have n4 := h4.next
  have n5 := h5.next
  have n6 := h6.next
  have n1 := h1.next
  have k27 : Stay s2.next s2 s7 := (((h3.trans (h4.weaken n3)).trans (h5.weaken (by omega))).trans (h6.weaken (by omega))).trans (h7.weaken (by omega))
  have k47 : Stay s4.next s4 s7 := (h5.trans (h6.weaken n5)).trans (h7.weaken (by omega))
  have k07 : Stay s.next s s7 := (h1.trans (h2.weaken n1)).trans (k27.weaken (by omega))
  have rows : ORows EntIs 6 (fun _ => True) s7 [([66], O.mk 2 2 [] [] []), ([65], O.mk 2 1 [] [] []), ([66], O.none)] (.string ⟨#[66]⟩ :: (p1 ++ .string ⟨#[65]⟩ :: p2 ++ .string ⟨#[66]⟩ :: p3)) := by
    have r1 : EntIs (fun _ => True) s7 (.string ⟨([66] : List UInt8).toArray⟩ :: p1) ([66], .mk 2 2 [] [] []) := ⟨p1, rfl, (e1.keeps k27).mono (fun _ _ => trivial), by decide⟩
    have r2 : EntIs (fun _ => True) s7 (.string ⟨([65] : List UInt8).toArray⟩ :: p2) ([65], .mk 2 1 [] [] []) := ⟨p2, rfl, (e2.keeps k47).mono (fun _ _ => trivial), by decide⟩
    have r3 : EntIs (fun _ => True) s7 (.string ⟨([66] : List UInt8).toArray⟩ :: p3) ([66], O.none) := ⟨p3, rfl, (e3.keeps h7).mono (fun _ _ => trivial), by decide⟩
    have := ((ORows.nil.snoc (cs := .string ⟨([66] : List UInt8).toArray⟩ :: p1) (by rw [List.length_cons, q1]) r1).snoc (cs := .string ⟨([65] : List UInt8).toArray⟩ :: p2) (by rw [List.length_cons, q2]) r2).snoc (cs := .string ⟨([66] : List UInt8).toArray⟩ :: p3) (by rw [List.length_cons, q3]) r3
    simpa using this
  refine (dict_any L (fun _ => True) s7 x [([66], O.mk 2 2 [] [] []), ([65], O.mk 2 1 [] [] []), ([66], O.none)] _ hx.sees rows (by decide) (fun e he => ?_)).mono ?_
  · simp at he
    rcases he with rfl | rfl | rfl
    · exact Small.bare 2 2
    · exact Small.bare 2 1
    · exact Small.none
  rintro _ s8 ⟨cs, rfl, ho, h8⟩
  rw [awakeD] at ho
  obtain ⟨bv, lv, dv, lc, dc, rfl, hb, hl, hd, -, -, -, rl, rd⟩ := ho.parts
  simp (config := { maxSteps := 1000000, implicitDefEqProofs := false }) (disch := omega) only [allW, allR, oneOf, evalAll, partsA, optA, Nat.reduceLT, Nat.reduceLeDiff, Nat.reduceEqDiff, Nat.reduceAdd, ↓reduceIte, hn, zO, plO]
  refine wstep_newPtr ?_
  intro s9 ht9 h9 hnx9
  have hd6 : noneC.length + 1 = 6 := rfl
  simp (config := { maxSteps := 1000000, implicitDefEqProofs := false }) (disch := omega) only [allW, allR, oneOf, evalAll, partsA, optA, Nat.reduceLT, Nat.reduceLeDiff, Nat.reduceEqDiff, Nat.reduceAdd, ↓reduceIte, hn, hd6]
  refine wstep_storeAll szO (by decide) ht9 rfl rfl rfl ho.ok ?_
  intro s10 ht10 hnx10 hot10
  have ht10 : Thing s10 s8.next [.int .i64 7, .int .i64 0, bv, lv, dv] := ht10
  have k810 : Stay s8.next s8 s10 := h9.trans ⟨by omega, fun j hj => hot10 j (by omega)⟩
  have hd10 : Sees s10 6 dv 1 dc := hd.keeps k810
  have l0 : loadA Try.prog s10 3 (.pointer (some ⟨s8.next, 0, some 6⟩)) = some (.int .i64 7) := ht10.load agInt (off := 0) (c := 6) rfl (by simp)
  have l4 : loadA Try.prog s10 24 (.pointer (some ⟨s8.next, 4, some 6⟩)) = some dv := ht10.load agDs (off := 4) (c := 6) rfl (by simp)
  have hix := hd10.indexAddr (P := Try.prog) (k := .i64) (x := 0) Try.underlying24 szE (by omega) (by decide)
  obtain ⟨q0, _⟩ := efE hd10 (k := 0) (by decide)
  obtain ⟨r, hr1, hr2, hr3⟩ := rd.row 0 (by decide)
  obtain ⟨hk6, hv6⟩ := chunk6 hr1
  have hlk := hd10.loadField (P := Try.prog) agStr (k := 0) (by decide) (j := 0) (by omega)
  rw [Nat.add_zero, hk6] at hlk
  have hix' : indexAddrA Try.prog 24 dv (.int .i64 0) = some (elemPtr 6 dv 0) := hix
  have d1 : decide (((1 : Nat) : Int) = 1) = true := rfl
  have e65 : decide ((([([65], O.mk 2 1 [] [] [])] : List (List UInt8 × O))[0]).1 = [65]) = true := rfl
  have hlk' : loadA Try.prog s10 9 (plusPtr (elemPtr 6 dv 0) 0) = some (.string ⟨([65] : List UInt8).toArray⟩) := hlk
  have sE : binA Try.prog .eql 9 (.string ⟨([65] : List UInt8).toArray⟩) (.string ⟨([65] : List UInt8).toArray⟩) = some (.bool true) := (str_eql [65] [65]).trans rfl
  simp (config := { maxSteps := 1000000, implicitDefEqProofs := false }) (disch := omega) only [allW, allR, oneOf, evalAll, partsA, optA, Nat.reduceLT, Nat.reduceLeDiff, Nat.reduceEqDiff, Nat.reduceAdd, ↓reduceIte, hn, of0, of4, l0, l4, hd10.lenA Try.underlying24, d1, hix', q0, hlk', sE, Thing.loadO ht10 rfl]
  refine (get_any L.get L.entries L.copy L.clone L.nothing _ s10 _ _ (ho.keeps k810) (.mk (by simp) (by simp) (by simp) (fun e he => ?_) (fun x hx => by cases hx) (fun e he => ?_)) [65]).mono ?_
  · simp at he; subst he; decide
  · simp at he; subst he; exact Small.bare 2 1
  rintro _ s11 ⟨cs', rfl, ho', h11⟩
  have hg : getO (.mk 7 0 [] [] [([65], O.mk 2 1 [] [] [])]) [65] = .mk 2 1 [] [] [] := rfl
  rw [hg] at ho'
  obtain ⟨bw, lw, dw, lc', dc', rfl, -⟩ := ho'.parts
  have hfd : fieldA Try.prog 26 (.agg #[.int .i64 2, .int .i64 1, bw, lw, dw]) 1 = some (.int .i64 1) := by
    unfold fieldA; rw [Try.underlying26]; simp [szInt, szI64, partA, agI64]; rfl
  simp (config := { maxSteps := 1000000, implicitDefEqProofs := false }) (disch := omega) only [allW, allR, wfn_ret, wfn_normal, oneOf, evalAll, partsA, optA, Nat.reduceLT, Nat.reduceLeDiff, Nat.reduceEqDiff, Nat.reduceAdd, ↓reduceIte, hn, hfd, Try.results9]
  have m7 := k07.next
  have m8 := h8.next
  have m10 := k810.next
  exact ⟨rfl, ((k07.trans (h8.weaken (by omega))).trans (k810.weaken (by omega))).trans (h11.weaken (by omega))⟩
end Go.Proofs.Ytdhdhbkikhedlaa
namespace Go.Proofs.Ytdhdhbkikhedlaa
open Go.Cl Go.Lib
theorem libC : LibC libN where
  set := rfl
  pair := rfl
  entries := rfl
  copy := rfl
  clone := rfl
  sorted := rfl
  c1 := rfl
  c2 := rfl
  del := rfl
  idx := rfl
  cloneE := rfl
  byKey := rfl
  cmp := rfl
  cmpB := rfl
  prim := rfl
  dict := rfl
  stream := rfl
  drop := rfl
  get := rfl
  int := rfl
  nothing := rfl
  arr := rfl
  str := rfl
  name := rfl
end Go.Proofs.Ytdhdhbkikhedlaa
