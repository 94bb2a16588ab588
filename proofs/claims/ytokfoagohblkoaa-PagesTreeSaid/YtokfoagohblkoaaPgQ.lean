import Derived.Test.YtokfoagohblkoaaPgO
import Derived.Test.YtokfoagohblkoaaPgD
set_option linter.unusedSimpArgs false
set_option linter.unusedVariables false
set_option maxRecDepth 100000
namespace Go.Cl
section
variable {m c : List Int} {r n : Int} {rc oc : List Value}
theorem pg_crop (hm : m.length = 4) (hc : c.length = 4) : ((pgC m c r rc n oc).drop 4).take 4 = i64V c := by
  obtain ⟨a, b, d, e, rfl⟩ := four hm
  obtain ⟨a1, b1, d1, e1, rfl⟩ := four hc
  rfl
theorem pg_rot (hm : m.length = 4) (hc : c.length = 4) : (pgC m c r rc n oc).getD 8 undef = .int .i64 r := by
  obtain ⟨a, b, d, e, rfl⟩ := four hm
  obtain ⟨a1, b1, d1, e1, rfl⟩ := four hc
  rfl
theorem pg_num (hm : m.length = 4) (hc : c.length = 4) (h1 : rc.length = 5) : (pgC m c r rc n oc).getD 14 undef = .int .i64 n := by
  obtain ⟨a, b, d, e, rfl⟩ := four hm
  obtain ⟨a1, b1, d1, e1, rfl⟩ := four hc
  obtain ⟨_, _, _, _, _, rfl⟩ := five h1
  rfl
end
theorem PgIs.eqC {F : Nat → Prop} {s : ASt} {cs : List Value} {p : PgO} (h : PgIs F s cs p) : ∃ rc oc, cs = pgC p.media p.crop p.rotate rc p.num oc ∧ p.media.length = 4 ∧ p.crop.length = 4 ∧ OIs F s rc p.res ∧ OIs F s oc p.obj := by
  obtain ⟨rc, oc, h1, h2, h3, h4, h5⟩ := h
  exact ⟨rc, oc, by rw [h1]; simp [pgC, lfC], h2, h3, h4, h5⟩
theorem entRow {F : Nat → Prop} {s : ASt} {k : List UInt8} {cs : List Value} {o : O} (h : OIs F s cs o) (hk : k.length ≤ 9223372036854775807) : ORows EntIs 6 F s [(k, o)] (.string ⟨k.toArray⟩ :: cs) :=
  ORows.snoc (D := []) (lc := []) ORows.nil (by rw [List.length_cons, h.len]) ⟨cs, rfl, h, hk⟩
def kKidsO : O := .mk 6 0 [] [.mk 9 3 [] [] []] []
def kMedO : O := .mk 6 0 [] (rO [(2, 0), (2, 0), (2, 9), (2, 9)]) []
def D21 : Dc := ⟨0, [], 0, .mk 7 0 [] [] [(kRoot, .mk 9 1 [] [] [])], [(1, .mk 7 0 [] [] [(kPages, .mk 9 2 [] [] [])]), (2, .mk 7 0 [] [] [(kKids, kKidsO), (kMed, kMedO), (kType, .mk 5 0 kPages [] [])]), (3, .mk 7 0 [] [] [(kType, .mk 5 0 kPage [] [])])]⟩
theorem put21 : putAll [] [(kType, .mk 5 0 kPages [] []), (kKids, kKidsO), (kMed, kMedO)] = [(kKids, kKidsO), (kMed, kMedO), (kType, .mk 5 0 kPages [] [])] := by kernel_rfl
theorem pages21 : (pagesD D21.items D21.trailer).2 = 0 ∧ (pagesD D21.items D21.trailer).1.map (fun p => (p.num, p.media)) = [(3, [0, 0, 900000, 900000])] := by decide +kernel
theorem small_name (b : List UInt8) (h : b.length ≤ 100000) : Small (.mk 5 0 b [] []) := .mk h (by simp) (by simp) (fun e h => by cases h) (fun e h => by cases h) (fun e h => by cases h)
theorem small_one {k : List UInt8} {o : O} (hk : k.length ≤ 100000) (ho : Small o) : Small (.mk 7 0 [] [] [(k, o)]) := .mk (by simp) (by simp) (by simp) (fun e h => by simp at h; rw [h]; exact hk) (fun e h => by cases h) (fun e h => by simp at h; rw [h]; exact ho)
theorem small_kids : Small kKidsO := .mk (by simp) (by simp) (by simp) (fun e h => by cases h) (fun e h => by simp at h; rw [h]; exact Small.bare 9 3) (fun e h => by cases h)
theorem small_med : Small kMedO := .mk (by simp) (by simp [rO]) (by simp) (fun e h => by cases h) (rO_small _) (fun e h => by cases h)
theorem small_three : Small (.mk 7 0 [] [] [(kKids, kKidsO), (kMed, kMedO), (kType, .mk 5 0 kPages [] [])]) :=
  .mk (by simp) (by simp) (by simp) (fun e h => by
    simp only [List.mem_cons, List.not_mem_nil, or_false] at h
    rcases h with rfl | rfl | rfl <;> decide) (fun e h => by cases h) (fun e h => by
    simp only [List.mem_cons, List.not_mem_nil, or_false] at h
    rcases h with rfl | rfl | rfl
    · exact small_kids
    · exact small_med
    · exact small_name _ (by decide))
theorem small21 : SmallD D21 where
  mark := by decide
  len := by decide
  trailer := small_one (by decide) (Small.bare 9 1)
  items := fun e h => by
    simp only [D21, List.mem_cons, List.not_mem_nil, or_false] at h
    rcases h with rfl | rfl | rfl
    · exact small_one (by decide) (Small.bare 9 2)
    · exact small_three
    · exact small_one (by decide) (small_name _ (by decide))
  nodes := by simp [D21, kKidsO, kMedO, rO, nodesO_mk]
theorem PgIs.self {F : Nat → Prop} {s : ASt} {cs : List Value} {p : PgO} (h : PgIs F s cs p) : valEq (.agg cs.toArray) (.agg cs.toArray) = true := by
  obtain ⟨rc, oc, rfl, h2, h3, h4, h5⟩ := h.eqC
  exact pgC_self h4.self h5.self
end Go.Cl
namespace Go.Proofs.Ytokfoagohblkoaa
open Go.Cl Go.Lib
theorem rp1 (i o c : Nat) : fieldAddrA Try.prog 52 (.pointer (some ⟨i, o, some c⟩)) 1 = some (.pointer (some ⟨i, o + 14, some c⟩)) := by
  unfold fieldAddrA; rw [Try.underlying52]; simp [szRl, szInt]
theorem pp0 (i o c : Nat) : fieldAddrA Try.prog 57 (.pointer (some ⟨i, o, some c⟩)) 0 = some (.pointer (some ⟨i, o + 0, some c⟩)) := by
  unfold fieldAddrA; rw [Try.underlying57]; simp [szLf]
theorem pp1 (i o c : Nat) : fieldAddrA Try.prog 57 (.pointer (some ⟨i, o, some c⟩)) 1 = some (.pointer (some ⟨i, o + 14, some c⟩)) := by
  unfold fieldAddrA; rw [Try.underlying57]; simp [szLf, szInt]
theorem boxEqP {l : List Int} (hl : l.length = 4) : binA Try.prog .eql 37 (.agg (i64V l).toArray) (.agg (i64V l).toArray) = some (.bool true) := by
  obtain ⟨a, b, c, d, rfl⟩ := four hl
  have g : Try.prog.eqGuardType Try.prog.depth 37 = false := by kernel_rfl
  have h : arrEqA Try.prog 37 (i64V [a, b, c, d]).toArray (i64V [a, b, c, d]).toArray = some true := by
    unfold arrEqA
    rw [Try.underlying37]
    simp only [Try.underlying2, szI64, g]
    simp [i64V, intsEqA]
  show (match arrEqA Try.prog 37 (i64V [a, b, c, d]).toArray (i64V [a, b, c, d]).toArray with
    | some b => some (Value.bool b)
    | none => none) = _
  rw [h]
theorem efP {s : ASt} {v : Value} {n : Nat} {l : List Value} (h : Sees s 20 v n l) {k : Nat} (hk : k < n) : fieldAddrA Try.prog 57 (elemPtr 20 v k) 0 = some (plusPtr (elemPtr 20 v k) 0) ∧ fieldAddrA Try.prog 57 (elemPtr 20 v k) 1 = some (plusPtr (elemPtr 20 v k) 14) ∧ fieldAddrA Try.prog 55 (plusPtr (elemPtr 20 v k) 0) 0 = some (plusPtr (elemPtr 20 v k) 0) := by
  obtain ⟨i, off, c, e, _⟩ := h.cells hk
  rw [e]
  exact ⟨pp0 _ _ _, pp1 _ _ _, lf0 _ _ _⟩
theorem zDP : zeroB Try.prog 34 = some (.agg noneD.toArray) := by kernel_rfl
set_option maxHeartbeats 16000000 in
theorem awakeP (s : ASt) : Runs Try.prog libN 7 [] s fun v s' => v = .bool true ∧ Stay s.next s s' := by
  refine Runs.enter 64 Try.func7 rfl rfl rfl rfl ?_
  intro f hn _
  simp (config := { maxSteps := 1000000, implicitDefEqProofs := false }) (disch := omega) only [allW, allR, oneOf, evalAll, partsA, optA, Nat.reduceLT, Nat.reduceLeDiff, Nat.reduceEqDiff, Nat.reduceAdd, ↓reduceIte, hn]
  refine (rref_any (lib := libN) rfl s 1).mono ?_
  rintro _ s1 ⟨c1, rfl, o1, h1⟩
  simp (config := { maxSteps := 1000000, implicitDefEqProofs := false }) (disch := omega) only [allW, allR, oneOf, evalAll, partsA, optA, Nat.reduceLT, Nat.reduceLeDiff, Nat.reduceEqDiff, Nat.reduceAdd, ↓reduceIte, hn]
  refine (rpair_any (lib := libN) rfl rfl rfl _ s1 kRoot c1 _ o1 (Small.bare 9 1)).mono ?_
  rintro _ s2 ⟨p2, rfl, e2, h2⟩
  have q2 := e2.len
  simp (config := { maxSteps := 1000000, implicitDefEqProofs := false }) (disch := omega) only [allW, allR, oneOf, evalAll, partsA, optA, Nat.reduceLT, Nat.reduceLeDiff, Nat.reduceEqDiff, Nat.reduceAdd, ↓reduceIte, hn, buildAgg1 (cs := (.string ⟨kRoot.toArray⟩ :: p2).toArray) Try.underlying29 szE zE plE rfl (by simp [q2]) (by decide)]
  refine wstep_newSlice (by simp [q2]) ?_
  intro x3 s3 hx3 _ h3
  simp (config := { maxSteps := 1000000, implicitDefEqProofs := false }) (disch := omega) only [allW, allR, oneOf, evalAll, partsA, optA, Nat.reduceLT, Nat.reduceLeDiff, Nat.reduceEqDiff, Nat.reduceAdd, ↓reduceIte, hn]
  refine (rdict_any libRP (fun _ => True) s3 x3 [(kRoot, .mk 9 1 [] [] [])] _ hx3.sees (entRow ((e2.keeps h3).mono fun _ _ => trivial) (by decide)) (by decide) (fun e he => by simp at he; subst he; exact Small.bare 9 1)).mono ?_
  rintro _ s4 ⟨tc, rfl, o4, h4⟩
  have o4 : OIs (fun j => s3.next ≤ j) s4 tc D21.trailer := o4
  simp (config := { maxSteps := 1000000, implicitDefEqProofs := false }) (disch := omega) only [allW, allR, oneOf, evalAll, partsA, optA, Nat.reduceLT, Nat.reduceLeDiff, Nat.reduceEqDiff, Nat.reduceAdd, ↓reduceIte, hn]
  refine (rref_any (lib := libN) rfl s4 2).mono ?_
  rintro _ s5 ⟨c5, rfl, o5, h5⟩
  simp (config := { maxSteps := 1000000, implicitDefEqProofs := false }) (disch := omega) only [allW, allR, oneOf, evalAll, partsA, optA, Nat.reduceLT, Nat.reduceLeDiff, Nat.reduceEqDiff, Nat.reduceAdd, ↓reduceIte, hn]
  refine (rpair_any (lib := libN) rfl rfl rfl _ s5 kPages c5 _ o5 (Small.bare 9 2)).mono ?_
  rintro _ s6 ⟨p6, rfl, e6, h6⟩
  have q6 := e6.len
  simp (config := { maxSteps := 1000000, implicitDefEqProofs := false }) (disch := omega) only [allW, allR, oneOf, evalAll, partsA, optA, Nat.reduceLT, Nat.reduceLeDiff, Nat.reduceEqDiff, Nat.reduceAdd, ↓reduceIte, hn, buildAgg1 (cs := (.string ⟨kPages.toArray⟩ :: p6).toArray) Try.underlying29 szE zE plE rfl (by simp [q6]) (by decide)]
  refine wstep_newSlice (by simp [q6]) ?_
  intro x7 s7 hx7 _ h7
  simp (config := { maxSteps := 1000000, implicitDefEqProofs := false }) (disch := omega) only [allW, allR, oneOf, evalAll, partsA, optA, Nat.reduceLT, Nat.reduceLeDiff, Nat.reduceEqDiff, Nat.reduceAdd, ↓reduceIte, hn]
  refine (rdict_any libRP (fun _ => True) s7 x7 [(kPages, .mk 9 2 [] [] [])] _ hx7.sees (entRow ((e6.keeps h7).mono fun _ _ => trivial) (by decide)) (by decide) (fun e he => by simp at he; subst he; exact Small.bare 9 2)).mono ?_
  rintro _ s8 ⟨c8, rfl, o8, h8⟩
  have q8 := o8.len
  simp (config := { maxSteps := 1000000, implicitDefEqProofs := false }) (disch := omega) only [allW, allR, oneOf, evalAll, partsA, optA, Nat.reduceLT, Nat.reduceLeDiff, Nat.reduceEqDiff, Nat.reduceAdd, ↓reduceIte, hn, bItem 1 q8]
  refine (rnameO_any (lib := libN) rfl s8 kPages (by decide)).mono ?_
  rintro _ s9 ⟨c9, rfl, o9, h9⟩
  simp (config := { maxSteps := 1000000, implicitDefEqProofs := false }) (disch := omega) only [allW, allR, oneOf, evalAll, partsA, optA, Nat.reduceLT, Nat.reduceLeDiff, Nat.reduceEqDiff, Nat.reduceAdd, ↓reduceIte, hn]
  refine (rpair_any (lib := libN) rfl rfl rfl _ s9 kType c9 _ o9 (small_name _ (by decide))).mono ?_
  rintro _ sa ⟨pa, rfl, ea, ha⟩
  have qa := ea.len
  simp (config := { maxSteps := 1000000, implicitDefEqProofs := false }) (disch := omega) only [allW, allR, oneOf, evalAll, partsA, optA, Nat.reduceLT, Nat.reduceLeDiff, Nat.reduceEqDiff, Nat.reduceAdd, ↓reduceIte, hn]
  refine (rref_any (lib := libN) rfl sa 3).mono ?_
  rintro _ sb ⟨cb, rfl, ob, hb⟩
  have qb := ob.len
  simp (config := { maxSteps := 1000000, implicitDefEqProofs := false }) (disch := omega) only [allW, allR, oneOf, evalAll, partsA, optA, Nat.reduceLT, Nat.reduceLeDiff, Nat.reduceEqDiff, Nat.reduceAdd, ↓reduceIte, hn, buildAgg1 (cs := cb.toArray) Try.underlying28 szO zO plO rfl (by simp [qb]) (by decide)]
  refine wstep_newSlice (by simp [qb]) ?_
  intro xc sc hxc _ hc
  have rowc : ORows OIs 5 (fun _ => True) sc [.mk 9 3 [] [] []] cb := ORows.snoc (D := []) (lc := []) ORows.nil qb ((ob.keeps hc).mono fun _ _ => trivial)
  simp (config := { maxSteps := 1000000, implicitDefEqProofs := false }) (disch := omega) only [allW, allR, oneOf, evalAll, partsA, optA, Nat.reduceLT, Nat.reduceLeDiff, Nat.reduceEqDiff, Nat.reduceAdd, ↓reduceIte, hn]
  refine (rarr_any (lib := libN) rfl rfl rfl (fun _ => True) sc xc [.mk 9 3 [] [] []] _ hxc.sees rowc (by decide) (fun x hx => by simp at hx; rw [hx]; exact Small.bare 9 3)).mono ?_
  rintro _ sd ⟨cd, rfl, od, hd⟩
  simp (config := { maxSteps := 1000000, implicitDefEqProofs := false }) (disch := omega) only [allW, allR, oneOf, evalAll, partsA, optA, Nat.reduceLT, Nat.reduceLeDiff, Nat.reduceEqDiff, Nat.reduceAdd, ↓reduceIte, hn]
  refine (rpair_any (lib := libN) rfl rfl rfl _ sd kKids cd _ od small_kids).mono ?_
  rintro _ se ⟨pe, rfl, ee, he⟩
  have qe := ee.len
  simp (config := { maxSteps := 1000000, implicitDefEqProofs := false }) (disch := omega) only [allW, allR, oneOf, evalAll, partsA, optA, Nat.reduceLT, Nat.reduceLeDiff, Nat.reduceEqDiff, Nat.reduceAdd, ↓reduceIte, hn]
  refine (rint_eq se 0).mono ?_
  rintro _ sf ⟨rfl, hf⟩
  simp (config := { maxSteps := 1000000, implicitDefEqProofs := false }) (disch := omega) only [allW, allR, oneOf, evalAll, partsA, optA, Nat.reduceLT, Nat.reduceLeDiff, Nat.reduceEqDiff, Nat.reduceAdd, ↓reduceIte, hn]
  refine (rint_eq sf 0).mono ?_
  rintro _ sg ⟨rfl, hg⟩
  simp (config := { maxSteps := 1000000, implicitDefEqProofs := false }) (disch := omega) only [allW, allR, oneOf, evalAll, partsA, optA, Nat.reduceLT, Nat.reduceLeDiff, Nat.reduceEqDiff, Nat.reduceAdd, ↓reduceIte, hn]
  refine (rint_eq sg 9).mono ?_
  rintro _ sh ⟨rfl, hh⟩
  simp (config := { maxSteps := 1000000, implicitDefEqProofs := false }) (disch := omega) only [allW, allR, oneOf, evalAll, partsA, optA, Nat.reduceLT, Nat.reduceLeDiff, Nat.reduceEqDiff, Nat.reduceAdd, ↓reduceIte, hn]
  refine (rint_eq sh 9).mono ?_
  rintro _ si ⟨rfl, hi⟩
  simp (config := { maxSteps := 1000000, implicitDefEqProofs := false }) (disch := omega) only [allW, allR, oneOf, evalAll, partsA, optA, Nat.reduceLT, Nat.reduceLeDiff, Nat.reduceEqDiff, Nat.reduceAdd, ↓reduceIte, hn, buildR4]
  refine wstep_newSlice (by rfl) ?_
  intro xj sj hxj _ hj
  simp (config := { maxSteps := 1000000, implicitDefEqProofs := false }) (disch := omega) only [allW, allR, oneOf, evalAll, partsA, optA, Nat.reduceLT, Nat.reduceLeDiff, Nat.reduceEqDiff, Nat.reduceAdd, ↓reduceIte, hn]
  refine (rarr_any (lib := libN) rfl rfl rfl (fun _ => True) sj xj (rO [(2, 0), (2, 0), (2, 9), (2, 9)]) _ hxj.sees (rO_rows _ _ _) (by simp [rO]) (rO_small _)).mono ?_
  rintro _ sk ⟨ck, rfl, ok, hk⟩
  simp (config := { maxSteps := 1000000, implicitDefEqProofs := false }) (disch := omega) only [allW, allR, oneOf, evalAll, partsA, optA, Nat.reduceLT, Nat.reduceLeDiff, Nat.reduceEqDiff, Nat.reduceAdd, ↓reduceIte, hn]
  refine (rpair_any (lib := libN) rfl rfl rfl _ sk kMed ck _ ok small_med).mono ?_
  rintro _ sl ⟨pl, rfl, el, hl⟩
  have ql := el.len
  simp (config := { maxSteps := 1000000, implicitDefEqProofs := false }) (disch := omega) only [allW, allR, oneOf, evalAll, partsA, optA, Nat.reduceLT, Nat.reduceLeDiff, Nat.reduceEqDiff, Nat.reduceAdd, ↓reduceIte, hn, buildAgg3 (a := (.string ⟨kType.toArray⟩ :: pa).toArray) (b := (.string ⟨kKids.toArray⟩ :: pe).toArray) (c := (.string ⟨kMed.toArray⟩ :: pl).toArray) Try.underlying29 szE zE plE rfl (by simp [qa]) (by simp [qe]) (by simp [ql]) (by decide)]
  refine wstep_newSlice (by simp [qa, qe, ql]) ?_
  intro xm sm hxm _ hm
  have n1 := h1.next
  have n2 := h2.next
  have n3 := h3.next
  have n4 := h4.next
  have n5 := h5.next
  have n6 := h6.next
  have n7 := h7.next
  have n8 := h8.next
  have n9 := h9.next
  have na := ha.next
  have nb := hb.next
  have nc := hc.next
  have nd := hd.next
  have ne := he.next
  have nf := hf.next
  have ng := hg.next
  have nh := hh.next
  have ni := hi.next
  have nj := hj.next
  have nk := hk.next
  have nl := hl.next
  have nm := hm.next
  have kem : Stay se.next se sm := ((((((hf.trans (hg.weaken (by omega))).trans (hh.weaken (by omega))).trans (hi.weaken (by omega))).trans (hj.weaken (by omega))).trans (hk.weaken (by omega))).trans (hl.weaken (by omega))).trans (hm.weaken (by omega))
  have kam : Stay sa.next sa sm := ((((hb.trans (hc.weaken (by omega))).trans (hd.weaken (by omega))).trans (he.weaken (by omega)))).trans (kem.weaken (by omega))
  have rowm : ORows EntIs 6 (fun _ => True) sm [(kType, .mk 5 0 kPages [] []), (kKids, kKidsO), (kMed, kMedO)] ((.string ⟨kType.toArray⟩ :: pa) ++ (.string ⟨kKids.toArray⟩ :: pe) ++ (.string ⟨kMed.toArray⟩ :: pl)) := by
    have r1 : EntIs (fun _ => True) sm (.string ⟨kType.toArray⟩ :: pa) (kType, .mk 5 0 kPages [] []) := ⟨pa, rfl, (ea.keeps kam).mono fun _ _ => trivial, by decide⟩
    have r2 : EntIs (fun _ => True) sm (.string ⟨kKids.toArray⟩ :: pe) (kKids, kKidsO) := ⟨pe, rfl, (ee.keeps kem).mono fun _ _ => trivial, by decide⟩
    have r3 : EntIs (fun _ => True) sm (.string ⟨kMed.toArray⟩ :: pl) (kMed, kMedO) := ⟨pl, rfl, (el.keeps hm).mono fun _ _ => trivial, by decide⟩
    have := ((ORows.nil.snoc (cs := .string ⟨kType.toArray⟩ :: pa) (by rw [List.length_cons, qa]) r1).snoc (cs := .string ⟨kKids.toArray⟩ :: pe) (by rw [List.length_cons, qe]) r2).snoc (cs := .string ⟨kMed.toArray⟩ :: pl) (by rw [List.length_cons, ql]) r3
    simpa using this
  simp (config := { maxSteps := 1000000, implicitDefEqProofs := false }) (disch := omega) only [allW, allR, oneOf, evalAll, partsA, optA, Nat.reduceLT, Nat.reduceLeDiff, Nat.reduceEqDiff, Nat.reduceAdd, ↓reduceIte, hn]
  refine (rdict_any libRP (fun _ => True) sm xm [(kType, .mk 5 0 kPages [] []), (kKids, kKidsO), (kMed, kMedO)] _ (by simpa using hxm.sees) rowm (by decide) (fun e he => by
    simp only [List.mem_cons, List.not_mem_nil, or_false] at he
    rcases he with rfl | rfl | rfl
    · exact small_name _ (by decide)
    · exact small_kids
    · exact small_med)).mono ?_
  rintro _ sn ⟨cn, rfl, on, hnn⟩
  rw [put21] at on
  have qn := on.len
  simp (config := { maxSteps := 1000000, implicitDefEqProofs := false }) (disch := omega) only [allW, allR, oneOf, evalAll, partsA, optA, Nat.reduceLT, Nat.reduceLeDiff, Nat.reduceEqDiff, Nat.reduceAdd, ↓reduceIte, hn, bItem 2 qn]
  refine (rnameO_any (lib := libN) rfl sn kPage (by decide)).mono ?_
  rintro _ so ⟨co, rfl, oo, hoo⟩
  simp (config := { maxSteps := 1000000, implicitDefEqProofs := false }) (disch := omega) only [allW, allR, oneOf, evalAll, partsA, optA, Nat.reduceLT, Nat.reduceLeDiff, Nat.reduceEqDiff, Nat.reduceAdd, ↓reduceIte, hn]
  refine (rpair_any (lib := libN) rfl rfl rfl _ so kType co _ oo (small_name _ (by decide))).mono ?_
  rintro _ sp ⟨pp, rfl, ep, hp⟩
  have qp := ep.len
  simp (config := { maxSteps := 1000000, implicitDefEqProofs := false }) (disch := omega) only [allW, allR, oneOf, evalAll, partsA, optA, Nat.reduceLT, Nat.reduceLeDiff, Nat.reduceEqDiff, Nat.reduceAdd, ↓reduceIte, hn, buildAgg1 (cs := (.string ⟨kType.toArray⟩ :: pp).toArray) Try.underlying29 szE zE plE rfl (by simp [qp]) (by decide)]
  refine wstep_newSlice (by simp [qp]) ?_
  intro xq sq hxq _ hq
  simp (config := { maxSteps := 1000000, implicitDefEqProofs := false }) (disch := omega) only [allW, allR, oneOf, evalAll, partsA, optA, Nat.reduceLT, Nat.reduceLeDiff, Nat.reduceEqDiff, Nat.reduceAdd, ↓reduceIte, hn]
  refine (rdict_any libRP (fun _ => True) sq xq [(kType, .mk 5 0 kPage [] [])] _ hxq.sees (entRow ((ep.keeps hq).mono fun _ _ => trivial) (by decide)) (by decide) (fun e he => by simp at he; subst he; exact small_name _ (by decide))).mono ?_
  rintro _ sr ⟨cr, rfl, or, hr⟩
  have qr := or.len
  simp (config := { maxSteps := 1000000, implicitDefEqProofs := false }) (disch := omega) only [allW, allR, oneOf, evalAll, partsA, optA, Nat.reduceLT, Nat.reduceLeDiff, Nat.reduceEqDiff, Nat.reduceAdd, ↓reduceIte, hn, bItem 3 qr, buildAgg3 (a := (.int .i64 1 :: c8).toArray) (b := (.int .i64 2 :: cn).toArray) (c := (.int .i64 3 :: cr).toArray) Try.underlying32 szI zI plI rfl (by simp [q8]) (by simp [qn]) (by simp [qr]) (by decide)]
  refine wstep_newSlice (by simp [q8, qn, qr]) ?_
  intro xs ss hxs _ hs
  have nn := hnn.next
  have no := hoo.next
  have np := hp.next
  have nq := hq.next
  have nr := hr.next
  have ns := hs.next
  have kns : Stay sn.next sn ss := (((hoo.trans (hp.weaken (by omega))).trans (hq.weaken (by omega))).trans (hr.weaken (by omega))).trans (hs.weaken (by omega))
  have k8s : Stay s8.next s8 ss := (((h9.trans (ha.weaken (by omega))).trans (kam.weaken (by omega))).trans (hnn.weaken (by omega))).trans (kns.weaken (by omega))
  have k4s : Stay s4.next s4 ss := (((h5.trans (h6.weaken (by omega))).trans (h7.weaken (by omega))).trans (h8.weaken (by omega))).trans (k8s.weaken (by omega))
  have k0s : Stay s.next s ss := (((h1.trans (h2.weaken (by omega))).trans (h3.weaken (by omega))).trans (h4.weaken (by omega))).trans (k4s.weaken (by omega))
  have rows : ORows ItIs 6 (fun _ => True) ss D21.items ((.int .i64 1 :: c8) ++ (.int .i64 2 :: cn) ++ (.int .i64 3 :: cr)) := by
    have r1 : ItIs (fun _ => True) ss (.int .i64 1 :: c8) (1, .mk 7 0 [] [] [(kPages, .mk 9 2 [] [] [])]) := ⟨c8, rfl, (o8.keeps k8s).mono fun _ _ => trivial⟩
    have r2 : ItIs (fun _ => True) ss (.int .i64 2 :: cn) (2, .mk 7 0 [] [] [(kKids, kKidsO), (kMed, kMedO), (kType, .mk 5 0 kPages [] [])]) := ⟨cn, rfl, (on.keeps kns).mono fun _ _ => trivial⟩
    have r3 : ItIs (fun _ => True) ss (.int .i64 3 :: cr) (3, .mk 7 0 [] [] [(kType, .mk 5 0 kPage [] [])]) := ⟨cr, rfl, (or.keeps hs).mono fun _ _ => trivial⟩
    have := ((ORows.nil.snoc (cs := .int .i64 1 :: c8) (by rw [List.length_cons, q8]) r1).snoc (cs := .int .i64 2 :: cn) (by rw [List.length_cons, qn]) r2).snoc (cs := .int .i64 3 :: cr) (by rw [List.length_cons, qr]) r3
    simpa [D21] using this
  obtain ⟨ia, il, ib, rfl⟩ : ∃ a n c, xs = .slice a n c := by cases hxs <;> exact ⟨_, _, _, rfl⟩
  have q4 := o4.len
  simp (config := { maxSteps := 1000000, implicitDefEqProofs := false }) (disch := omega) only [allW, allR, oneOf, evalAll, partsA, optA, Nat.reduceLT, Nat.reduceLeDiff, Nat.reduceEqDiff, Nat.reduceAdd, ↓reduceIte, hn, bDoc q4, zDP, plD]
  refine wstep_newPtr ?_
  intro st htt hstt hnxt
  have hd10 : noneD.length + 1 = 10 := rfl
  have hDs : DocIs (fun _ => True) ss (.slice none 0 0) tc (.slice ia il ib) _ D21 := ⟨.nil, Foot.of_id (fun j hj => trivial), (o4.keeps k4s).mono (fun _ _ => trivial), by simpa [D21] using hxs.sees, Foot.of_id (fun j hj => trivial), rows⟩
  have hDl := docC_len hDs
  have hDo := docC_ok hDs
  simp (config := { maxSteps := 1000000, implicitDefEqProofs := false }) (disch := omega) only [allW, allR, oneOf, evalAll, partsA, optA, Nat.reduceLT, Nat.reduceLeDiff, Nat.reduceEqDiff, Nat.reduceAdd, ↓reduceIte, hn, hd10]
  refine wstep_storeAll szD (by decide) htt rfl rfl hDl hDo ?_
  intro su htu hnxu hotu
  have htu : Thing su ss.next (docC D21 (.slice none 0 0) tc (.slice ia il ib)) := htu
  have ksu : Stay ss.next ss su := hstt.trans ⟨by omega, fun j hj => hotu j (by omega)⟩
  simp (config := { maxSteps := 1000000, implicitDefEqProofs := false }) (disch := omega) only [allW, allR, oneOf, evalAll, partsA, optA, Nat.reduceLT, Nat.reduceLeDiff, Nat.reduceEqDiff, Nat.reduceAdd, ↓reduceIte, hn, db_all htu q4]
  refine (all_any (fun _ => True) su D21 _ tc _ _ (hDs.keeps ksu) small21).mono ?_
  rintro _ sv ⟨lv, lc, rfl, hlv, hRv, -, -, kv⟩
  obtain ⟨p1, p2⟩ := pages21
  have pl1 : (pagesD D21.items D21.trailer).1.length = 1 := by
    have := congrArg List.length p2
    simpa using this
  obtain ⟨P, hP⟩ : ∃ P, P = (pagesD D21.items D21.trailer).1 := ⟨_, rfl⟩
  rw [← hP] at p2 pl1 hlv hRv
  rw [p1]
  match P, pl1 with
  | [p], _ =>
  have p2 : [(p.num, p.media)] = [(3, [0, 0, 900000, 900000])] := p2
  simp only [List.cons.injEq, Prod.mk.injEq, and_true] at p2
  obtain ⟨pn, pm⟩ := p2
  have h0r : PgIs (fun _ => True) sv ((lc.drop (0 * 20)).take 20) p := hRv.row 0 (by simp)
  have hll : lc.length = 20 := hRv.len
  have hlc : (lc.drop (0 * 20)).take 20 = lc := by rw [Nat.zero_mul, List.drop_zero, List.take_of_length_le (by omega)]
  rw [hlc] at h0r
  obtain ⟨rc, oc, ec, hm4, hc4, hrc, hoc⟩ := h0r.eqC
  have hlv : Sees sv 20 lv 1 lc := hlv
  have hix := hlv.indexAddr (P := Try.prog) (k := .i64) (x := (0 : Int)) Try.underlying23 szPg (by omega) (by omega)
  have hix : indexAddrA Try.prog 23 lv (.int .i64 0) = some (elemPtr 20 lv 0) := hix
  obtain ⟨f0, f1, f2⟩ := efP hlv (k := 0) (by omega)
  have hln := hlv.loadField (P := Try.prog) agInt (k := 0) (j := 14) (by omega) (by omega)
  have hlb := hlv.loadPart (P := Try.prog) agBx szBx (k := 0) (j := 0) (by omega) (by omega)
  have e14 : lc.getD (0 * 20 + 14) undef = .int .i64 3 := by rw [ec]; have := pg_num (m := p.media) (c := p.crop) (r := p.rotate) (n := p.num) (oc := oc) hm4 hc4 hrc.len; rw [pn] at this ⊢; exact this
  have eB : (lc.drop (0 * 20 + 0)).take 4 = i64V [0, 0, 900000, 900000] := by rw [ec]; have := pg_media (m := p.media) (c := p.crop) (r := p.rotate) (n := p.num) (rc := rc) (oc := oc) hm4; rw [pm] at this ⊢; exact this
  rw [e14] at hln
  rw [eB] at hlb
  have bq : binA Try.prog .eql 37 (.agg (i64V [0, 0, 900000, 900000]).toArray) (.agg #[.int .i64 0, .int .i64 0, .int .i64 900000, .int .i64 900000]) = some (.bool true) := boxEqP rfl
  have hlen := hlv.lenA (P := Try.prog) (s2 := sv) Try.underlying23
  have c0 : ((0 : Nat) : Int) = 0 := rfl
  have c1 : ((1 : Nat) : Int) = 1 := rfl
  simp (config := { maxSteps := 1000000, implicitDefEqProofs := false }) (disch := omega) only [allW, allR, oneOf, evalAll, partsA, optA, Nat.reduceLT, Nat.reduceLeDiff, Nat.reduceEqDiff, Nat.reduceAdd, ↓reduceIte, allW, allR, wfn_ret, wfn_normal, oneOf, evalAll, partsA, optA, Nat.reduceLT, Nat.reduceLeDiff, Nat.reduceEqDiff, Nat.reduceAdd, ↓reduceIte, undef, hn, ext0, ext1, c0, c1, hlen, decide_true, hix, f0, f1, f2, hln, hlb, b4Bx, bq, Try.results7]
  exact k0s.trans ((ksu.trans (kv.weaken ksu.next)).weaken (by have := k0s.next; omega))
end Go.Proofs.Ytokfoagohblkoaa
