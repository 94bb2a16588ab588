/-
  The statement IccMakes: any tags in any space: program and reference make the same profile, or refuse alike; read, it has the tags, in order, apart, within: the law returns true.
  Conditions: none.
-/
import Derived.Test.YtbakljlaladpoaaRows
import Derived.Test.YtbakljlaladpoaaStart
import Derived.Test.YtbakljlaladpoaaRecs
import Derived.ChangeMaps5
import Derived.Test.YtbakljlaladpoaaIccR
set_option linter.unusedSimpArgs false
set_option linter.unusedVariables false
namespace Go.Proofs.Ytbakljlaladpoaa.iccMakes
open Go.ChangeShapes Go.WideShapes Go.ChangeAt Go.RowKit Go.Cl Go.Cl.Icc

theorem awake1 : answersTrue (acall Try.prog libN 100000 7 [] ⟨.nil, 1⟩) = true := by kernel_rfl
abbrev D3 := List UInt8 × Int × Int
def deed_f (d : D3) : List Value := tagC d
def deed_p (d : D3) : Prop := d.1.length < 9223372036854775808
theorem deed_len (d : D3) : (deed_f d).length = 3 := rfl
theorem deed_vr (S : St) (d : D3) (v : Value) (h : v ∈ deed_f d) : VR S v v := by
  simp only [deed_f, tagC, List.mem_cons, List.not_mem_nil, or_false] at h
  rcases h with rfl | rfl | rfl
  · exact .string _
  · exact .int _ _
  · exact .int _ _
theorem deed_cells : Try.prog.cellsOf 46 = 3 := by kernel_rfl
theorem deed_int : Try.prog.cellsOf 3 = 1 := by kernel_rfl
theorem deed_str : Try.prog.cellsOf 9 = 1 := by kernel_rfl
theorem deed_row {H : Type} {enc : TypeId × Value → H} {W : World} (fuel : Nat) (cs : List Value) (x : DataW H × List MemPlace) (h : DataW.trod enc Try.prog W 0 (fun _ => true) true fuel 46 cs = some x) : ∃ d, deed_p d ∧ cs = deed_f d := by
  obtain ⟨xs, n, _, _, hl, hxl, hx⟩ := DataW.trod_struct Try.underlying46 h
  rw [deed_cells] at hl
  have h0 := hx 0 _ rfl
  have h1 := hx 1 _ rfl
  have h2 := hx 2 _ rfl
  change DataW.trod enc Try.prog W 0 (fun _ => true) true n 9 ((cs.drop 0).take (Try.prog.cellsOf 9)) = xs[0]? at h0
  change DataW.trod enc Try.prog W 0 (fun _ => true) true n 3 ((cs.drop 1).take (Try.prog.cellsOf 3)) = xs[1]? at h1
  change DataW.trod enc Try.prog W 0 (fun _ => true) true n 3 ((cs.drop 2).take (Try.prog.cellsOf 3)) = xs[2]? at h2
  rw [deed_str] at h0
  rw [deed_int] at h1 h2
  have hs : xs.length = 3 := hxl
  rw [List.getElem?_eq_getElem (by omega)] at h0 h1 h2
  obtain ⟨c, e0, _, e3⟩ := DataW.trod_string Try.underlying9 h0
  obtain ⟨a, e1, _⟩ := DataW.trod_int Try.underlying3 h1
  obtain ⟨b, e2, _⟩ := DataW.trod_int Try.underlying3 h2
  match cs, hl with
  | [v0, v1, v2], _ =>
    have hm : maxLen = 9223372036854775807 := by decide
    refine ⟨(c.data.toList, a, b), ?_, ?_⟩
    · show c.data.toList.length < _
      have : c.data.toList.length = c.size := by rw [Array.length_toList]; rfl
      omega
    · simp at e0 e1 e2
      simp [deed_f, tagC, e0, e1, e2]
set_option maxHeartbeats 8000000 in
theorem law (s : ASt) (n0 : ByteArray) (x : Value) (T : List D3) (hw : WF s) (hk : s.next = 1) (hz : n0.size ≤ maxLen) (hx : Sees s 3 x T.length (T.flatMap deed_f)) (hTd : ∀ d ∈ T, deed_p d) :
    Runs Try.prog libN 5 [.string n0, x] s fun v _ => v = .bool true := by
  obtain ⟨sp, rfl⟩ : ∃ l : List UInt8, n0 = ⟨l.toArray⟩ := ⟨n0.data.toList, by cases n0; simp⟩
  have hx : Sees s 3 x T.length (tagsC T) := hx
  refine Runs.enter 163 Try.func5 rfl rfl rfl rfl ?_
  intro f hn hf
  have h0 : f.get 0 = .string ⟨sp.toArray⟩ := hf 0
  have h1 : f.get 1 = x := hf 1
  clear hf
  simp (config := { maxSteps := 1000000, implicitDefEqProofs := false }) (disch := omega) only [allW, cond_true, cond_false, oneOf, evalAll, partsA, optA, List.drop_zero, List.drop_succ_cons, List.cons_append, List.nil_append, Nat.reduceLT, Nat.reduceLeDiff, Nat.reduceEqDiff, Nat.reduceAdd, List.getD_cons_zero, List.getD_cons_succ, List.set_cons_zero, List.set_cons_succ, ↓reduceIte, if_true, if_false, beq_self_eq_true, ne_eq, eq_self, not_true_eq_false, not_false_eq_true, hn, h0, h1]
  refine (Runs.closed libFr awake1 hk hw).mono ?_
  rintro _ s1 ⟨rfl, hst1, _⟩
  have hx1 := hx.keeps hst1
  by_cases c1 : (120 : Int) < (T.length : Int)
  · simp (config := { maxSteps := 1000000, implicitDefEqProofs := false }) (disch := omega) only [allW, wfn_ret, wfn_normal, cond_true, cond_false, oneOf, evalAll, partsA, optA, List.drop_zero, List.drop_succ_cons, List.cons_append, List.nil_append, Nat.reduceLT, Nat.reduceLeDiff, Nat.reduceEqDiff, Nat.reduceAdd, List.getD_cons_zero, List.getD_cons_succ, List.set_cons_zero, List.set_cons_succ, ↓reduceIte, if_true, if_false, beq_self_eq_true, ne_eq, eq_self, not_true_eq_false, not_false_eq_true, undef, hn, h0, h1, hx1.lenA Try.underlying38, hx1.self, eq_true c1, Try.results5]
  by_cases c2 : (20 : Int) < (sp.length : Int)
  · simp (config := { maxSteps := 1000000, implicitDefEqProofs := false }) (disch := omega) only [allW, wfn_ret, wfn_normal, cond_true, cond_false, oneOf, evalAll, partsA, optA, List.drop_zero, List.drop_succ_cons, List.cons_append, List.nil_append, Nat.reduceLT, Nat.reduceLeDiff, Nat.reduceEqDiff, Nat.reduceAdd, List.getD_cons_zero, List.getD_cons_succ, List.set_cons_zero, List.set_cons_succ, ↓reduceIte, if_true, if_false, beq_self_eq_true, ne_eq, eq_self, not_true_eq_false, not_false_eq_true, undef, hn, h0, h1, hx1.lenA Try.underlying38, hx1.self, str_len Try.underlying9, eq_false c1, eq_true c2, Try.results5]
  simp (config := { maxSteps := 1000000, implicitDefEqProofs := false }) (disch := omega) only [allW, cond_true, cond_false, oneOf, evalAll, partsA, optA, List.drop_zero, List.drop_succ_cons, List.cons_append, List.nil_append, Nat.reduceLT, Nat.reduceLeDiff, Nat.reduceEqDiff, Nat.reduceAdd, List.getD_cons_zero, List.getD_cons_succ, List.set_cons_zero, List.set_cons_succ, ↓reduceIte, if_true, if_false, beq_self_eq_true, ne_eq, eq_self, not_true_eq_false, not_false_eq_true, undef, hn, h0, h1, hx1.lenA Try.underlying38, hx1.self, str_len Try.underlying9, eq_false c1, eq_false c2]
  refine Comes.loopOut (fun z f s2 => ∃ (i m : Nat), z = T.length - i ∧ i ≤ T.length ∧ m ≤ i ∧ s2 = s1 ∧ f.n = 163 ∧ f.get 0 = .string ⟨sp.toArray⟩ ∧ f.get 1 = x ∧ f.get 5 = .int .i64 (m : Nat) ∧ f.get 6 = .int .i64 (i : Nat))
    (fun z f s2 => z = .exit 0 ∧ ∃ m : Nat, m ≤ T.length ∧ s2 = s1 ∧ f.n = 163 ∧ f.get 0 = .string ⟨sp.toArray⟩ ∧ f.get 1 = x ∧ f.get 5 = .int .i64 (m : Nat))
    ⟨0, 0, rfl, by omega, by omega, rfl, by simp only [get_put, n_put, ↓reduceIte, Nat.reduceEqDiff, hn], by simp only [get_put, n_put, ↓reduceIte, Nat.reduceEqDiff, h0], by simp only [get_put, n_put, ↓reduceIte, Nat.reduceEqDiff, h1], by simp only [get_put, n_put, ↓reduceIte, Nat.reduceEqDiff]; rfl, by simp only [get_put, n_put, ↓reduceIte, Nat.reduceEqDiff]; rfl⟩ ?_ ?_
  · clear hn h0 h1 f
    rintro Q hQ z f s2 ⟨i, m, rfl, hi, hm, hs2, hn, h0, h1, h5, h6⟩
    rw [hs2]; clear hs2 s2
    by_cases hlt : i < T.length
    · have d1 : (i : Int) < (T.length : Int) := by omega
      have hix := hx1.indexAddr (P := Try.prog) (k := .i64) (x := (i : Int)) Try.underlying38 rszTag (by omega) (by omega)
      rw [Int.toNat_natCast] at hix
      obtain ⟨q0, _, q2⟩ := rfldE hx1 hlt
      obtain ⟨hl0, _, hl2⟩ := tagLoads (P := Try.prog) qagStr agInt hx1 hlt
      have next : ∀ (f : AFr) (m' : Nat), m' ≤ i + 1 → f.n = 163 → f.get 0 = .string ⟨sp.toArray⟩ → f.get 1 = x → f.get 5 = .int .i64 (m' : Nat) → f.get 6 = .int .i64 ((i + 1 : Nat) : Int) → wround (fun z f s2 => ∃ (i m : Nat), z = T.length - i ∧ i ≤ T.length ∧ m ≤ i ∧ s2 = s1 ∧ f.n = 163 ∧ f.get 0 = .string ⟨sp.toArray⟩ ∧ f.get 1 = x ∧ f.get 5 = .int .i64 (m : Nat) ∧ f.get 6 = .int .i64 (i : Nat)) (T.length - i) Q .normal f s1 := fun f m' hm' hn h0 h1 h5 h6 =>
        wround_next (T.length - (i + 1)) (by omega) ⟨i + 1, m', rfl, by omega, hm', rfl, hn, h0, h1, h5, h6⟩
      by_cases e1 : (20 : Int) < ((T[i].1).length : Int)
      · simp (config := { maxSteps := 1000000, implicitDefEqProofs := false }) (disch := omega) only [allW, cond_true, cond_false, oneOf, evalAll, partsA, optA, List.drop_zero, List.drop_succ_cons, List.cons_append, List.nil_append, Nat.reduceLT, Nat.reduceLeDiff, Nat.reduceEqDiff, Nat.reduceAdd, List.getD_cons_zero, List.getD_cons_succ, List.set_cons_zero, List.set_cons_succ, ↓reduceIte, if_true, if_false, beq_self_eq_true, ne_eq, eq_self, not_true_eq_false, not_false_eq_true, undef, hn, h0, h1, h5, h6, hx1.lenA Try.underlying38, eq_true d1, hix, q0, hl0, str_len Try.underlying9, eq_true e1, wrapI]
        refine next _ (m + 1) (by omega) ?_ ?_ ?_ ?_ ?_ <;> first | (simp only [get_put, n_put, ↓reduceIte, Nat.reduceEqDiff, hn]; done) | (simp only [get_put, n_put, ↓reduceIte, Nat.reduceEqDiff, h0]; done) | (simp only [get_put, n_put, ↓reduceIte, Nat.reduceEqDiff, h1]; done) | (simp only [get_put, n_put, ↓reduceIte, Nat.reduceEqDiff]; rfl)
      · by_cases e2 : (5000 : Int) < T[i].2.2
        · simp (config := { maxSteps := 1000000, implicitDefEqProofs := false }) (disch := omega) only [allW, cond_true, cond_false, oneOf, evalAll, partsA, optA, List.drop_zero, List.drop_succ_cons, List.cons_append, List.nil_append, Nat.reduceLT, Nat.reduceLeDiff, Nat.reduceEqDiff, Nat.reduceAdd, List.getD_cons_zero, List.getD_cons_succ, List.set_cons_zero, List.set_cons_succ, ↓reduceIte, if_true, if_false, beq_self_eq_true, ne_eq, eq_self, not_true_eq_false, not_false_eq_true, undef, hn, h0, h1, h5, h6, hx1.lenA Try.underlying38, eq_true d1, hix, q0, q2, hl0, hl2, str_len Try.underlying9, eq_false e1, eq_true e2, wrapI]
          refine next _ (m + 1) (by omega) ?_ ?_ ?_ ?_ ?_ <;> first | (simp only [get_put, n_put, ↓reduceIte, Nat.reduceEqDiff, hn]; done) | (simp only [get_put, n_put, ↓reduceIte, Nat.reduceEqDiff, h0]; done) | (simp only [get_put, n_put, ↓reduceIte, Nat.reduceEqDiff, h1]; done) | (simp only [get_put, n_put, ↓reduceIte, Nat.reduceEqDiff]; rfl)
        · simp (config := { maxSteps := 1000000, implicitDefEqProofs := false }) (disch := omega) only [allW, cond_true, cond_false, oneOf, evalAll, partsA, optA, List.drop_zero, List.drop_succ_cons, List.cons_append, List.nil_append, Nat.reduceLT, Nat.reduceLeDiff, Nat.reduceEqDiff, Nat.reduceAdd, List.getD_cons_zero, List.getD_cons_succ, List.set_cons_zero, List.set_cons_succ, ↓reduceIte, if_true, if_false, beq_self_eq_true, ne_eq, eq_self, not_true_eq_false, not_false_eq_true, undef, hn, h0, h1, h5, h6, hx1.lenA Try.underlying38, eq_true d1, hix, q0, q2, hl0, hl2, str_len Try.underlying9, eq_false e1, eq_false e2, wrapI]
          refine next _ m (by omega) ?_ ?_ ?_ ?_ ?_ <;> first | (simp only [get_put, n_put, ↓reduceIte, Nat.reduceEqDiff, hn]; done) | (simp only [get_put, n_put, ↓reduceIte, Nat.reduceEqDiff, h0]; done) | (simp only [get_put, n_put, ↓reduceIte, Nat.reduceEqDiff, h1]; done) | (simp only [get_put, n_put, ↓reduceIte, Nat.reduceEqDiff, h5]; done) | (simp only [get_put, n_put, ↓reduceIte, Nat.reduceEqDiff]; rfl)
    · obtain rfl : i = T.length := by omega
      have d1 : ¬ ((T.length : Nat) : Int) < ((T.length : Nat) : Int) := by omega
      simp (config := { maxSteps := 1000000, implicitDefEqProofs := false }) (disch := omega) only [allW, cond_true, cond_false, oneOf, evalAll, partsA, optA, List.drop_zero, List.drop_succ_cons, List.cons_append, List.nil_append, Nat.reduceLT, Nat.reduceLeDiff, Nat.reduceEqDiff, Nat.reduceAdd, List.getD_cons_zero, List.getD_cons_succ, List.set_cons_zero, List.set_cons_succ, ↓reduceIte, if_true, if_false, beq_self_eq_true, ne_eq, eq_self, not_true_eq_false, not_false_eq_true, hn, h0, h1, h5, h6, hx1.lenA Try.underlying38, eq_false d1]
      refine hQ _ _ _ ⟨rfl, m, hm, rfl, by simp only [get_put, n_put, ↓reduceIte, Nat.reduceEqDiff, hn], by simp only [get_put, n_put, ↓reduceIte, Nat.reduceEqDiff, h0], by simp only [get_put, n_put, ↓reduceIte, Nat.reduceEqDiff, h1], by simp only [get_put, n_put, ↓reduceIte, Nat.reduceEqDiff, h5]⟩
  clear hn h0 h1 f
  rintro _ f s2 ⟨rfl, m, hm, hs2, hn, h0, h1, h5⟩
  rw [hs2]; clear hs2 s2
  by_cases c3 : (3 : Int) < (m : Int)
  · simp (config := { maxSteps := 1000000, implicitDefEqProofs := false }) (disch := omega) only [allW, wfn_ret, wfn_normal, cond_true, cond_false, oneOf, evalAll, partsA, optA, List.drop_zero, List.drop_succ_cons, List.cons_append, List.nil_append, Nat.reduceLT, Nat.reduceLeDiff, Nat.reduceEqDiff, Nat.reduceAdd, List.getD_cons_zero, List.getD_cons_succ, List.set_cons_zero, List.set_cons_succ, ↓reduceIte, if_true, if_false, beq_self_eq_true, ne_eq, eq_self, not_true_eq_false, not_false_eq_true, undef, hn, h0, h1, h5, eq_true c3, Try.results5]
  simp (config := { maxSteps := 1000000, implicitDefEqProofs := false }) (disch := omega) only [allW, cond_true, cond_false, oneOf, evalAll, partsA, optA, List.drop_zero, List.drop_succ_cons, List.cons_append, List.nil_append, Nat.reduceLT, Nat.reduceLeDiff, Nat.reduceEqDiff, Nat.reduceAdd, List.getD_cons_zero, List.getD_cons_succ, List.set_cons_zero, List.set_cons_succ, ↓reduceIte, if_true, if_false, beq_self_eq_true, ne_eq, eq_self, not_true_eq_false, not_false_eq_true, undef, hn, h0, h1, h5, eq_false c3]
  refine (tagsL_any s1 x T hx1 (by omega)).mono ?_
  rintro y s2 ⟨hy, hyF, hst2⟩
  simp (config := { maxSteps := 1000000, implicitDefEqProofs := false }) (disch := omega) only [allW, cond_true, cond_false, oneOf, evalAll, partsA, optA, List.drop_zero, List.drop_succ_cons, List.cons_append, List.nil_append, Nat.reduceLT, Nat.reduceLeDiff, Nat.reduceEqDiff, Nat.reduceAdd, List.getD_cons_zero, List.getD_cons_succ, List.set_cons_zero, List.set_cons_succ, ↓reduceIte, if_true, if_false, beq_self_eq_true, ne_eq, eq_self, not_true_eq_false, not_false_eq_true, hn, h0, h1, h5]
  refine (make_any s2 sp y T hy.sees (by omega)).mono ?_
  rintro _ s3 ⟨hok, hno⟩
  by_cases hall : okAll sp T
  rotate_left
  · obtain ⟨rfl, hst3⟩ := hno hall
    have hx3 := (hx1.keeps hst2).keeps hst3
    simp (config := { maxSteps := 1000000, implicitDefEqProofs := false }) (disch := omega) only [allW, cond_true, cond_false, oneOf, evalAll, partsA, optA, List.drop_zero, List.drop_succ_cons, List.cons_append, List.nil_append, Nat.reduceLT, Nat.reduceLeDiff, Nat.reduceEqDiff, Nat.reduceAdd, List.getD_cons_zero, List.getD_cons_succ, List.set_cons_zero, List.set_cons_succ, ↓reduceIte, if_true, if_false, beq_self_eq_true, ne_eq, eq_self, not_true_eq_false, not_false_eq_true, hn, h0, h1, h5, show ∀ a b, extractA (.tuple #[a, b]) 0 = some a from fun _ _ => rfl, show ∀ a b, extractA (.tuple #[a, b]) 1 = some b from fun _ _ => rfl]
    refine (rmake_any s3 sp x T hx3 (by omega)).mono ?_
    rintro _ s4 ⟨_, hno4⟩
    obtain ⟨rfl, hst4⟩ := hno4 hall
    simp (config := { maxSteps := 1000000, implicitDefEqProofs := false }) (disch := omega) only [allW, cond_true, cond_false, oneOf, evalAll, partsA, optA, List.drop_zero, List.drop_succ_cons, List.cons_append, List.nil_append, Nat.reduceLT, Nat.reduceLeDiff, Nat.reduceEqDiff, Nat.reduceAdd, List.getD_cons_zero, List.getD_cons_succ, List.set_cons_zero, List.set_cons_succ, ↓reduceIte, if_true, if_false, beq_self_eq_true, ne_eq, eq_self, not_true_eq_false, not_false_eq_true, undef, hn, h0, h1, h5, show ∀ a b, extractA (.tuple #[a, b]) 0 = some a from fun _ _ => rfl, show ∀ a b, extractA (.tuple #[a, b]) 1 = some b from fun _ _ => rfl, bin_neq]
    refine (same_any rfl s4 _ _ [] [] .nil .nil (by decide) (by decide)).mono ?_
    rintro _ s5 ⟨rfl, hs5⟩
    rw [hs5]; clear hs5 s5
    simp (config := { maxSteps := 1000000, implicitDefEqProofs := false }) (disch := omega) only [allW, cond_true, cond_false, oneOf, evalAll, partsA, optA, List.drop_zero, List.drop_succ_cons, List.cons_append, List.nil_append, Nat.reduceLT, Nat.reduceLeDiff, Nat.reduceEqDiff, Nat.reduceAdd, List.getD_cons_zero, List.getD_cons_succ, List.set_cons_zero, List.set_cons_succ, ↓reduceIte, if_true, if_false, beq_self_eq_true, ne_eq, eq_self, not_true_eq_false, not_false_eq_true, undef, hn, h0, h1, h5]
    refine (read_any s4 _ [] .nil (by decide)).mono ?_
    rintro _ s5 ⟨cs, rfl, hP, hst5⟩
    have hr : readP [] = (2, []) := readP_short (by decide)
    have hcs : cs = zeroP := hP.1 (by rw [hr]; decide)
    rw [hr, hcs]
    simp (config := { maxSteps := 1000000, implicitDefEqProofs := false }) (disch := omega) only [allW, cond_true, cond_false, oneOf, evalAll, partsA, optA, List.drop_zero, List.drop_succ_cons, List.cons_append, List.nil_append, Nat.reduceLT, Nat.reduceLeDiff, Nat.reduceEqDiff, Nat.reduceAdd, List.getD_cons_zero, List.getD_cons_succ, List.set_cons_zero, List.set_cons_succ, ↓reduceIte, if_true, if_false, beq_self_eq_true, ne_eq, eq_self, not_true_eq_false, not_false_eq_true, undef, hn, h0, h1, h5, show ∀ a b, extractA (.tuple #[a, b]) 0 = some a from fun _ _ => rfl, show ∀ a b, extractA (.tuple #[a, b]) 1 = some b from fun _ _ => rfl, zProf, plProf]
    refine wstep_newPtr ?_
    intro s6 ht6 hst6 hnx6
    have hd8 : zeroP.length + 1 = 8 := rfl
    simp (config := { maxSteps := 1000000, implicitDefEqProofs := false }) (disch := omega) only [allW, cond_true, cond_false, oneOf, evalAll, partsA, optA, List.drop_zero, List.drop_succ_cons, List.cons_append, List.nil_append, Nat.reduceLT, Nat.reduceLeDiff, Nat.reduceEqDiff, Nat.reduceAdd, List.getD_cons_zero, List.getD_cons_succ, List.set_cons_zero, List.set_cons_succ, ↓reduceIte, if_true, if_false, beq_self_eq_true, ne_eq, eq_self, not_true_eq_false, not_false_eq_true, hn, h0, h1, hd8]
    refine wstep_storeAll szProf (by decide) ht6 rfl rfl rfl rfl ?_
    intro s7 ht7 hnx7 hot7
    simp (config := { maxSteps := 1000000, implicitDefEqProofs := false }) (disch := omega) only [allW, wfn_ret, wfn_normal, cond_true, cond_false, oneOf, evalAll, partsA, optA, List.drop_zero, List.drop_succ_cons, List.cons_append, List.nil_append, Nat.reduceLT, Nat.reduceLeDiff, Nat.reduceEqDiff, Nat.reduceAdd, List.getD_cons_zero, List.getD_cons_succ, List.set_cons_zero, List.set_cons_succ, ↓reduceIte, if_true, if_false, beq_self_eq_true, ne_eq, eq_self, not_true_eq_false, not_false_eq_true, undef, hn, h0, h1, bin_neq, eq_false (show ¬ (1 : Int) = 0 by decide), Try.results5]
  obtain ⟨b, rfl, hb, hbF, hst3⟩ := hok hall
  have hx3 := (hx1.keeps hst2).keeps hst3
  have hbl := bytesM_length hall
  have hbt := bodyTo_le hall.2.2
  have hle := hall.2.1
  simp (config := { maxSteps := 1000000, implicitDefEqProofs := false }) (disch := omega) only [allW, cond_true, cond_false, oneOf, evalAll, partsA, optA, List.drop_zero, List.drop_succ_cons, List.cons_append, List.nil_append, Nat.reduceLT, Nat.reduceLeDiff, Nat.reduceEqDiff, Nat.reduceAdd, List.getD_cons_zero, List.getD_cons_succ, List.set_cons_zero, List.set_cons_succ, ↓reduceIte, if_true, if_false, beq_self_eq_true, ne_eq, eq_self, not_true_eq_false, not_false_eq_true, hn, h0, h1, h5, show ∀ a b, extractA (.tuple #[a, b]) 0 = some a from fun _ _ => rfl, show ∀ a b, extractA (.tuple #[a, b]) 1 = some b from fun _ _ => rfl]
  refine (rmake_any s3 sp x T hx3 (by omega)).mono ?_
  rintro _ s4 ⟨hok4, _⟩
  obtain ⟨b', rfl, hb', hbF', hst4⟩ := hok4 hall
  have hb4 := hb.keeps hst4
  have hx4 := hx3.keeps hst4
  simp (config := { maxSteps := 1000000, implicitDefEqProofs := false }) (disch := omega) only [allW, cond_true, cond_false, oneOf, evalAll, partsA, optA, List.drop_zero, List.drop_succ_cons, List.cons_append, List.nil_append, Nat.reduceLT, Nat.reduceLeDiff, Nat.reduceEqDiff, Nat.reduceAdd, List.getD_cons_zero, List.getD_cons_succ, List.set_cons_zero, List.set_cons_succ, ↓reduceIte, if_true, if_false, beq_self_eq_true, ne_eq, eq_self, not_true_eq_false, not_false_eq_true, undef, hn, h0, h1, h5, show ∀ a b, extractA (.tuple #[a, b]) 0 = some a from fun _ _ => rfl, show ∀ a b, extractA (.tuple #[a, b]) 1 = some b from fun _ _ => rfl, bin_neq, hb4.self, hb'.self]
  refine (same_any rfl s4 _ _ _ _ hb4.sees hb'.sees (by omega) (by omega)).mono ?_
  rintro _ s5 ⟨rfl, hs5⟩
  rw [hs5]; clear hs5 s5
  simp (config := { maxSteps := 1000000, implicitDefEqProofs := false }) (disch := omega) only [allW, cond_true, cond_false, oneOf, evalAll, partsA, optA, List.drop_zero, List.drop_succ_cons, List.cons_append, List.nil_append, Nat.reduceLT, Nat.reduceLeDiff, Nat.reduceEqDiff, Nat.reduceAdd, List.getD_cons_zero, List.getD_cons_succ, List.set_cons_zero, List.set_cons_succ, ↓reduceIte, if_true, if_false, beq_self_eq_true, ne_eq, eq_self, not_true_eq_false, not_false_eq_true, undef, hn, h0, h1, h5]
  refine (read_any s4 _ _ hb4.sees (by omega)).mono ?_
  rintro _ s5 ⟨cs, rfl, hP, hst5⟩
  have hr := made_read hall
  obtain ⟨_, hnum, _, hhead⟩ := made_head hall
  have hd8 : zeroP.length + 1 = 8 := rfl
  have hcl : cs.length = 7 := by
    by_cases c : (readP (bytesM sp T)).1 = 0
    · obtain ⟨x, hx, _⟩ := hP.2 c; rw [hx]; rfl
    · rw [hP.1 c]; rfl
  have hcok : cs.all okCell = true := by
    by_cases c : (readP (bytesM sp T)).1 = 0
    · obtain ⟨x, hx, hxs⟩ := hP.2 c
      have hxk := hxs.okCell
      rw [hx]; simp only [headIs, headC, List.cons_append, List.nil_append, List.all_cons, List.all_nil, hxk]; rfl
    · rw [hP.1 c]; rfl
  have hx5 := hx4.keeps hst5
  have hb5 := hb4.keeps hst5
  by_cases hh : (has (placed T T.length) DESC && has (placed T T.length) WTPT) = true
  rotate_left
  · rw [if_neg hh] at hr
    rw [hr]
    simp (config := { maxSteps := 1000000, implicitDefEqProofs := false }) (disch := omega) only [allW, cond_true, cond_false, oneOf, evalAll, partsA, optA, List.drop_zero, List.drop_succ_cons, List.cons_append, List.nil_append, Nat.reduceLT, Nat.reduceLeDiff, Nat.reduceEqDiff, Nat.reduceAdd, List.getD_cons_zero, List.getD_cons_succ, List.set_cons_zero, List.set_cons_succ, ↓reduceIte, if_true, if_false, beq_self_eq_true, ne_eq, eq_self, not_true_eq_false, not_false_eq_true, undef, hn, h0, h1, h5, show ∀ a b, extractA (.tuple #[a, b]) 0 = some a from fun _ _ => rfl, show ∀ a b, extractA (.tuple #[a, b]) 1 = some b from fun _ _ => rfl, zProf, plProf]
    refine wstep_newPtr ?_
    intro s6 ht6 hst6 hnx6
    simp (config := { maxSteps := 1000000, implicitDefEqProofs := false }) (disch := omega) only [allW, cond_true, cond_false, oneOf, evalAll, partsA, optA, List.drop_zero, List.drop_succ_cons, List.cons_append, List.nil_append, Nat.reduceLT, Nat.reduceLeDiff, Nat.reduceEqDiff, Nat.reduceAdd, List.getD_cons_zero, List.getD_cons_succ, List.set_cons_zero, List.set_cons_succ, ↓reduceIte, if_true, if_false, beq_self_eq_true, ne_eq, eq_self, not_true_eq_false, not_false_eq_true, hn, h0, h1, hd8]
    refine wstep_storeAll szProf (by decide) ht6 rfl rfl hcl hcok ?_
    intro s7 ht7 hnx7 hot7
    simp (config := { maxSteps := 1000000, implicitDefEqProofs := false }) (disch := omega) only [allW, wfn_ret, wfn_normal, cond_true, cond_false, oneOf, evalAll, partsA, optA, List.drop_zero, List.drop_succ_cons, List.cons_append, List.nil_append, Nat.reduceLT, Nat.reduceLeDiff, Nat.reduceEqDiff, Nat.reduceAdd, List.getD_cons_zero, List.getD_cons_succ, List.set_cons_zero, List.set_cons_succ, ↓reduceIte, if_true, if_false, beq_self_eq_true, ne_eq, eq_self, not_true_eq_false, not_false_eq_true, undef, hn, h0, h1, bin_neq, eq_false (show ¬ (8 : Int) = 0 by decide), Try.results5]
  rw [if_pos hh] at hr
  obtain ⟨y', hcs, hy'⟩ := hP.2 (by rw [hr])
  rw [hhead] at hcs
  rw [hr, placed_length] at hy'
  have hy' : Sees s5 3 y' T.length (tagsC (placed T T.length)) := hy'
  subst hcs
  rw [hr]
  simp (config := { maxSteps := 1000000, implicitDefEqProofs := false }) (disch := omega) only [allW, cond_true, cond_false, oneOf, evalAll, partsA, optA, List.drop_zero, List.drop_succ_cons, List.cons_append, List.nil_append, Nat.reduceLT, Nat.reduceLeDiff, Nat.reduceEqDiff, Nat.reduceAdd, List.getD_cons_zero, List.getD_cons_succ, List.set_cons_zero, List.set_cons_succ, ↓reduceIte, if_true, if_false, beq_self_eq_true, ne_eq, eq_self, not_true_eq_false, not_false_eq_true, undef, hn, h0, h1, h5, show ∀ a b, extractA (.tuple #[a, b]) 0 = some a from fun _ _ => rfl, show ∀ a b, extractA (.tuple #[a, b]) 1 = some b from fun _ _ => rfl, zProf, plProf]
  refine wstep_newPtr ?_
  intro s6 ht6 hst6 hnx6
  simp (config := { maxSteps := 1000000, implicitDefEqProofs := false }) (disch := omega) only [allW, cond_true, cond_false, oneOf, evalAll, partsA, optA, List.drop_zero, List.drop_succ_cons, List.cons_append, List.nil_append, Nat.reduceLT, Nat.reduceLeDiff, Nat.reduceEqDiff, Nat.reduceAdd, List.getD_cons_zero, List.getD_cons_succ, List.set_cons_zero, List.set_cons_succ, ↓reduceIte, if_true, if_false, beq_self_eq_true, ne_eq, eq_self, not_true_eq_false, not_false_eq_true, hn, h0, h1, hd8]
  refine wstep_storeAll szProf (by decide) ht6 rfl rfl hcl hcok ?_
  intro s7 ht7 hnx7 hot7
  have hst57 : Stay s5.next s5 s7 := hst6.trans ⟨by omega, fun j hj => hot7 j (by omega)⟩
  have hx7 := hx5.keeps hst57
  have hy7 := hy'.keeps hst57
  have hb7 := hb5.keeps hst57
  have ht7 : Thing s7 s5.next (headC ((bytesM sp T).length : Nat) 2 (parts sp) [109, 110, 116, 114] sp [88, 89, 90, 32] ++ [y']) := ht7
  simp (config := { maxSteps := 1000000, implicitDefEqProofs := false }) (disch := omega) only [allW, cond_true, cond_false, oneOf, evalAll, partsA, optA, List.drop_zero, List.drop_succ_cons, List.cons_append, List.nil_append, Nat.reduceLT, Nat.reduceLeDiff, Nat.reduceEqDiff, Nat.reduceAdd, List.getD_cons_zero, List.getD_cons_succ, List.set_cons_zero, List.set_cons_succ, ↓reduceIte, if_true, if_false, beq_self_eq_true, ne_eq, eq_self, not_true_eq_false, not_false_eq_true, undef, hn, h0, h1, bin_neq, hx7.lenA Try.underlying38, wrapI]
  have k20 : 132 + 12 * (T.length : Int) = ((132 + 12 * T.length + bodyTo T 0 : Nat) : Int) := by simp only [bodyTo]; omega
  rw [k20]
  have lp : ∀ t, Stay s7.next s7 t → loadA Try.prog t 25 (.pointer (some ⟨s5.next, 6, some 8⟩)) = some y' := fun t ht => (ht7.keeps ht).load agTagS (off := 6) (c := 8) rfl (by simp [headC])
  refine Comes.loopOut (fun z f s8 => ∃ (i : Nat), z = T.length - i ∧ i ≤ T.length ∧ Stay s7.next s7 s8 ∧ f.n = 163 ∧ f.get 0 = .string ⟨sp.toArray⟩ ∧ f.get 1 = x ∧ f.get 7 = b ∧ f.get 11 = .pointer (some ⟨s5.next, 0, some 8⟩) ∧ f.get 13 = .int .i64 ((132 + 12 * T.length + bodyTo T i : Nat) : Int) ∧ f.get 14 = .int .i64 (i : Nat))
    (fun z f s8 => z = .exit 2 ∧ Stay s7.next s7 s8 ∧ f.n = 163 ∧ f.get 0 = .string ⟨sp.toArray⟩ ∧ f.get 1 = x ∧ f.get 7 = b ∧ f.get 11 = .pointer (some ⟨s5.next, 0, some 8⟩) ∧ f.get 13 = .int .i64 ((132 + 12 * T.length + bodyTo T T.length : Nat) : Int))
    ⟨0, rfl, by omega, Stay.refl _ _, by simp only [get_put, n_put, ↓reduceIte, Nat.reduceEqDiff, hn], by simp only [get_put, n_put, ↓reduceIte, Nat.reduceEqDiff, h0], by simp only [get_put, n_put, ↓reduceIte, Nat.reduceEqDiff, h1], by simp only [get_put, n_put, ↓reduceIte, Nat.reduceEqDiff], by simp only [get_put, n_put, ↓reduceIte, Nat.reduceEqDiff], by simp only [get_put, n_put, ↓reduceIte, Nat.reduceEqDiff], by simp only [get_put, n_put, ↓reduceIte, Nat.reduceEqDiff]; rfl⟩ ?_ ?_
  · clear hn h0 h1 h5 f
    rintro Q hQ z f s8 ⟨i, rfl, hi, hst8, hn, h0, h1, h7, h11, h13, h14⟩
    have hx8 := hx7.keeps hst8
    have hy8 := hy7.keeps hst8
    by_cases hlt : i < T.length
    rotate_left
    · obtain rfl : i = T.length := by omega
      have d1 : ¬ ((T.length : Nat) : Int) < ((T.length : Nat) : Int) := by omega
      simp (config := { maxSteps := 1000000, implicitDefEqProofs := false }) (disch := omega) only [allW, cond_true, cond_false, oneOf, evalAll, partsA, optA, List.drop_zero, List.drop_succ_cons, List.cons_append, List.nil_append, Nat.reduceLT, Nat.reduceLeDiff, Nat.reduceEqDiff, Nat.reduceAdd, List.getD_cons_zero, List.getD_cons_succ, List.set_cons_zero, List.set_cons_succ, ↓reduceIte, if_true, if_false, beq_self_eq_true, ne_eq, eq_self, not_true_eq_false, not_false_eq_true, hn, h0, h1, h7, h11, h13, h14, hx8.lenA Try.underlying38, eq_false d1]
      refine hQ _ _ _ ⟨rfl, hst8, by simp only [get_put, n_put, ↓reduceIte, Nat.reduceEqDiff, hn], by simp only [get_put, n_put, ↓reduceIte, Nat.reduceEqDiff, h0], by simp only [get_put, n_put, ↓reduceIte, Nat.reduceEqDiff, h1], by simp only [get_put, n_put, ↓reduceIte, Nat.reduceEqDiff, h7], by simp only [get_put, n_put, ↓reduceIte, Nat.reduceEqDiff, h11], by simp only [get_put, n_put, ↓reduceIte, Nat.reduceEqDiff, h13]⟩
    have d1 : (i : Int) < (T.length : Int) := by omega
    have hk := hall.2.2 i hlt
    have hgd := tagsC_at2 T hlt
    obtain ⟨nm, at', sz, htt⟩ : ∃ a b c, T[i] = (a, b, c) := ⟨_, _, _, rfl⟩
    have hpi : i < (placed T T.length).length := by rw [placed_length]; exact hlt
    have hpt : (placed T T.length)[i] = (nm, ((132 + 12 * T.length + bodyTo T i : Nat) : Int), sz) := by
      have := placed_get T T.length i hlt
      rw [List.getElem?_eq_getElem hpi, hgd, htt] at this
      injection this
    have lx := lp s8 hst8
    have hix := hy8.indexAddr (P := Try.prog) (k := .i64) (x := (i : Int)) Try.underlying25 szTag (by omega) (by omega)
    rw [Int.toNat_natCast] at hix
    have hld := hy8.loadAgg (P := Try.prog) agTag szTag hlt
    rw [tagsC_agg _ i hpi, hpt] at hld
    have hd4 : (tagC ([], 0, 0)).length + 1 = 4 := rfl
    simp (config := { maxSteps := 1000000, implicitDefEqProofs := false }) (disch := omega) only [allW, cond_true, cond_false, oneOf, evalAll, partsA, optA, List.drop_zero, List.drop_succ_cons, List.cons_append, List.nil_append, Nat.reduceLT, Nat.reduceLeDiff, Nat.reduceEqDiff, Nat.reduceAdd, List.getD_cons_zero, List.getD_cons_succ, List.set_cons_zero, List.set_cons_succ, ↓reduceIte, if_true, if_false, beq_self_eq_true, ne_eq, eq_self, not_true_eq_false, not_false_eq_true, hn, h0, h1, h7, h11, h13, h14, hx8.lenA Try.underlying38, eq_true d1, pf1, lx, hix, hld, zTag, plTag]
    refine wstep_newPtr ?_
    intro s9 ht9 hst9 hnx9
    simp (config := { maxSteps := 1000000, implicitDefEqProofs := false }) (disch := omega) only [allW, cond_true, cond_false, oneOf, evalAll, partsA, optA, List.drop_zero, List.drop_succ_cons, List.cons_append, List.nil_append, Nat.reduceLT, Nat.reduceLeDiff, Nat.reduceEqDiff, Nat.reduceAdd, List.getD_cons_zero, List.getD_cons_succ, List.set_cons_zero, List.set_cons_succ, ↓reduceIte, if_true, if_false, beq_self_eq_true, ne_eq, eq_self, not_true_eq_false, not_false_eq_true, hn, h0, h1, h7, h11, h13, h14, hd4]
    refine wstep_storeAll szTag (by decide) ht9 rfl rfl rfl rfl ?_
    intro sa hta hnxa hota
    have hta : Thing sa s8.next (tagC (nm, ((132 + 12 * T.length + bodyTo T i : Nat) : Int), sz)) := hta
    have hst8a : Stay s8.next s8 sa := hst9.trans ⟨by omega, fun j hj => hota j (by omega)⟩
    have hxa := hx8.keeps hst8a
    have hixa := hxa.indexAddr (P := Try.prog) (k := .i64) (x := (i : Int)) Try.underlying38 rszTag (by omega) (by omega)
    rw [Int.toNat_natCast] at hixa
    obtain ⟨q0, _, q2⟩ := rfldE hxa hlt
    obtain ⟨hl0, _, hl2⟩ := tagLoads (P := Try.prog) qagStr agInt hxa hlt
    rw [htt] at hl0 hl2
    have la0 : loadA Try.prog sa 9 (.pointer (some ⟨s8.next, 0, some 4⟩)) = some (.string ⟨nm.toArray⟩) := hta.load qagStr (off := 0) (c := 4) rfl (by simp [tagC])
    have la1 : loadA Try.prog sa 3 (.pointer (some ⟨s8.next, 1, some 4⟩)) = some (.int .i64 ((132 + 12 * T.length + bodyTo T i : Nat) : Int)) := hta.load agInt (off := 1) (c := 4) rfl (by simp [tagC])
    have la2 : loadA Try.prog sa 3 (.pointer (some ⟨s8.next, 2, some 4⟩)) = some (.int .i64 sz) := hta.load agInt (off := 2) (c := 4) rfl (by simp [tagC])
    have es : binA Try.prog .neq 9 (.string ⟨nm.toArray⟩) (.string ⟨nm.toArray⟩) = some (.bool false) := by rw [str_neq]; simp
    have hz1 : 0 ≤ sz := by have := hk.2.1; rw [hgd, htt] at this; exact this
    have hz2 : sz ≤ 65535 := by have := hk.2.2.1; rw [hgd, htt] at this; exact this
    have kq : (sz + 3).tdiv 4 * 4 = ((pad sz : Nat) : Int) := by
      rw [Int.tdiv_eq_ediv_of_nonneg (by omega)]; unfold pad; omega
    have kq2 : -9223372036854775808 ≤ (sz + 3).tdiv 4 ∧ (sz + 3).tdiv 4 ≤ 9223372036854775807 := by
      rw [Int.tdiv_eq_ediv_of_nonneg (by omega)]; omega
    have hpl := pad_le hz2
    have hbi := bodyTo_mono T hi
    have hbs : bodyTo T (i + 1) = bodyTo T i + pad sz := by simp only [bodyTo]; rw [hgd, htt]
    simp (config := { maxSteps := 1000000, implicitDefEqProofs := false }) (disch := omega) only [allW, cond_true, cond_false, oneOf, evalAll, partsA, optA, List.drop_zero, List.drop_succ_cons, List.cons_append, List.nil_append, Nat.reduceLT, Nat.reduceLeDiff, Nat.reduceEqDiff, Nat.reduceAdd, List.getD_cons_zero, List.getD_cons_succ, List.set_cons_zero, List.set_cons_succ, ↓reduceIte, if_true, if_false, beq_self_eq_true, ne_eq, eq_self, not_true_eq_false, not_false_eq_true, undef, hn, h0, h1, h7, h11, h13, h14, tfld0, tfld1, tfld2, la0, la1, la2, hxa.self, hixa, q0, q2, hl0, hl2, es, valEq_plus, bin_neq, bin_quo, wrapI, kq2, kq]
    refine wround_next (T.length - (i + 1)) (by omega) ⟨i + 1, rfl, by omega, hst8.trans (hst8a.weaken hst8.next), by simp only [get_put, n_put, ↓reduceIte, Nat.reduceEqDiff, hn], by simp only [get_put, n_put, ↓reduceIte, Nat.reduceEqDiff, h0], by simp only [get_put, n_put, ↓reduceIte, Nat.reduceEqDiff, h1], by simp only [get_put, n_put, ↓reduceIte, Nat.reduceEqDiff, h7], by simp only [get_put, n_put, ↓reduceIte, Nat.reduceEqDiff, h11], ?_, by simp only [get_put, n_put, ↓reduceIte, Nat.reduceEqDiff]; rfl⟩
    simp only [get_put, n_put, ↓reduceIte, Nat.reduceEqDiff]
    rw [hbs]
    congr 2
    omega
  clear hn h0 h1 h5 f
  rintro _ f s8 ⟨rfl, hst8, hn, h0, h1, h7, h11, h13⟩
  have hx8 := hx7.keeps hst8
  have hy8 := hy7.keeps hst8
  have hb8 := hb7.keeps hst8
  have ht8 := ht7.keeps hst8
  have lx := lp s8 hst8
  have l4 : loadA Try.prog s8 9 (.pointer (some ⟨s5.next, 4, some 8⟩)) = some (.string ⟨sp.toArray⟩) := ht8.load qagStr (off := 4) (c := 8) rfl (by simp [headC])
  have l0 : loadA Try.prog s8 3 (.pointer (some ⟨s5.next, 0, some 8⟩)) = some (.int .i64 ((bytesM sp T).length : Nat)) := ht8.load agInt (off := 0) (c := 8) rfl (by simp [headC])
  have es : binA Try.prog .eql 9 (.string ⟨sp.toArray⟩) (.string ⟨sp.toArray⟩) = some (.bool true) := by rw [str_eql]; simp
  simp (config := { maxSteps := 1000000, implicitDefEqProofs := false }) (disch := omega) only [allW, wfn_ret, wfn_normal, cond_true, cond_false, oneOf, evalAll, partsA, optA, List.drop_zero, List.drop_succ_cons, List.cons_append, List.nil_append, Nat.reduceLT, Nat.reduceLeDiff, Nat.reduceEqDiff, Nat.reduceAdd, List.getD_cons_zero, List.getD_cons_succ, List.set_cons_zero, List.set_cons_succ, ↓reduceIte, if_true, if_false, beq_self_eq_true, ne_eq, eq_self, not_true_eq_false, not_false_eq_true, undef, hn, h0, h1, h7, h11, h13, pf0, pf1, hf0, hf4, lx, l4, l0, es, hx8.lenA Try.underlying38, hy8.lenA Try.underlying25, hb8.sees.lenA Try.underlying31, hbl, Try.results5]

theorem own : ownKnob Try.prog.godebug = none := by kernel_rfl
theorem sound : progOk Try.prog libN = true := by kernel_rfl
theorem laid : laidOutB Try.prog = true := by kernel_rfl
theorem read : ∀ t ∈ Try.f5.params.toList, Try.prog.readableRec t = true ∧ t < Try.prog.types.size := by
  have : (Try.f5.params.toList.all fun t => Try.prog.readableRec t && decide (t < Try.prog.types.size)) = true := by kernel_rfl
  intro t ht
  simpa using List.all_eq_true.mp this t ht
set_option maxRecDepth 100000 in
theorem lifted (os : Os) (started : os.Started) (H : Type) (enc : TypeId × Value → H) :
    ReturnsInHanded {} Try.checked os 5 .any (Rows.iccMakesSpec.pre6 enc Try.prog Try.f5 Rows.iccMakesRow.domain false) (Rows.iccMakesSpec.post enc Try.prog Try.f5 false true false false) := by
  refine returnsInHanded_of_change (C := Try.checked) own started (by kernel_rfl) Try.func5
    (ChangeSpec.witness6 (enc := enc) (C := Try.checked) false ⟨#[], #[.string ⟨#[]⟩, .slice none 0 0], []⟩ 8 (by kernel_rfl) (by kernel_rfl) (by kernel_rfl) (by kernel_rfl)) ?_
  intro W base args ds gs before hval hW hcnd _
  obtain ⟨p, q, hA, _, _, _, _⟩ := id hW
  have hA : DataW.TrodAll enc Try.prog W 0 (fun _ => true) true Try.f5.params.toList args.toList ds p := hA
  rw [Try.params5] at hA
  obtain ⟨v0, v1, d0, d1, p0, p1, rfl, rfl, rfl, h0, h1⟩ := trodAll_two hA
  have hv0 : Value.okWide Try.prog W .any base 9 v0 := hval 0 _ _ (by rw [Try.params5]; rfl) rfl
  have hv1 : Value.okWide Try.prog W .any base 38 v1 := hval 1 _ _ (by rw [Try.params5]; rfl) rfl
  obtain ⟨n0, rfl, _, _, hz0⟩ := Go.ChangeMaps.open_string Try.underlying9 hv0 h0
  obtain ⟨S1, x1, l1, hj1, hx1, hz1⟩ := (Begun.start W).rows deed_f deed_p Try.underlying38 deed_cells (by decide) deed_row deed_len deed_vr hv1 h1
  have hcalls := Runs.callsL libFr (libOk _) sound rfl hj1.begun (law S1.s n0 x1 l1 hj1.begun.sr.wf (by rw [hj1.next]; rfl) hz0 hx1 hz1) (args' := #[.string n0, v1]) (VRL.cons (.string _) (VRL.cons hj1.vr VRL.nil))
  refine hcalls.mono fun e W' ⟨he, hb⟩ => ?_
  subst he
  exact law_post laid read rfl Try.underlying4 rfl (fun L hL => by match L, hL with | [a0, a1], _ => rfl) hW hb

theorem over : Rows.iccMakesRow.holds Try.pinned (OpenSpec.ofChange Rows.iccMakesSpec) :=
  OpenClaim.holds_of_wide 5 Try.f5 rfl rfl rfl rfl rfl rfl rfl ⟨rfl, rfl, rfl, rfl, rfl⟩ rfl rfl rfl rfl rfl (by kernel_rfl) Try.func5 (by kernel_rfl)
    (of_decide_eq_true (by kernel_rfl)) (by unfold Func.isWrapper; first | (rw [if_pos (by decide +kernel)]; kernel_rfl) | (rw [if_neg (by decide +kernel)]; exact ⟨rfl, rfl⟩))
    (fun os started H enc _ => lifted os started H enc)

/-- THE STATEMENT. -/
theorem proved : Rows.IccMakesSaid := over
#print axioms proved
end Go.Proofs.Ytbakljlaladpoaa.iccMakes
