/-
  Objects: whether one may be, by the program.
-/
import Derived.Test.YtdhdhbkikhedlaaCosM
import Derived.Test.YtdhdhbkikhedlaaCosJ
import Derived.Lib.Bytealg
set_option linter.unusedSimpArgs false
set_option linter.unusedVariables false
set_option maxRecDepth 100000
namespace Go.Cl
open Go.Lib
section
variable {P : Program} {lib : Prims} {all : List Oper}
theorem wops_split : ∀ (r1 r2 : List Oper) (f : AFr) (s : ASt) (Q : AFr → ASt → Prop), wops P lib all r1 f s (fun f s => wops P lib all r2 f s Q) → wops P lib all (r1 ++ r2) f s Q
  | [], r2, f, s, Q, h => by rw [wops_nil] at h; exact h
  | o :: r1, r2, f, s, Q, h => by
    have hput : ∀ (d : Option Tmp) (v : Value) (s' : ASt), wput f d v (fun f' => wops P lib all r1 f' s' (fun f s => wops P lib all r2 f s Q)) → wput f d v (fun f' => wops P lib all (r1 ++ r2) f' s' Q) := fun d v s' => by
      unfold wput
      split
      · exact wops_split r1 r2 _ _ Q
      · exact id
    rw [List.cons_append, wops_cons]
    rw [wops_cons] at h
    revert h
    cases wantedA all o f with
    | true =>
      rw [wwant_true, wwant_true]
      unfold wstep
      split
      · exact hput _ _ _
      · exact fun h => h.mono (fun v s' => hput _ _ _)
      · exact id
    | false => exact hput _ _ _
theorem wwant_cutAt {r : List Oper} {o : Oper} {f : AFr} {s : ASt} {Q : AFr → ASt → Prop} {b : Bool} (n : Nat) (J : AFr → ASt → Prop) (h1 : ∀ Q' : AFr → ASt → Prop, (∀ f' s', J f' s' → Q' f' s') → wwant P lib all o (r.take n) f s Q' b) (h2 : ∀ f' s', J f' s' → wops P lib all (r.drop n) f' s' Q) : wwant P lib all o r f s Q b := by
  have h := h1 _ h2
  have hput : ∀ (d : Option Tmp) (v : Value) (s' : ASt), wput f d v (fun f' => wops P lib all (r.take n) f' s' (fun f s => wops P lib all (r.drop n) f s Q)) → wput f d v (fun f' => wops P lib all r f' s' Q) := fun d v s' => by
    unfold wput
    split
    · intro h
      have := wops_split (r.take n) (r.drop n) _ _ Q h
      rwa [List.take_append_drop] at this
    · exact id
  revert h
  cases b with
  | true =>
    rw [wwant_true, wwant_true]
    unfold wstep
    split
    · exact hput _ _ _
    · exact fun h => h.mono (fun v s' => hput _ _ _)
    · exact id
  | false => exact hput _ _ _
end
def SpareO (k n : Int) (b : List UInt8) (l : List O) (d : List (List UInt8 × O)) : Prop := ((k = 1 ∨ k = 2 ∨ k = 3 ∨ k = 9) ∨ n = 0) ∧ ((k = 4 ∨ k = 5 ∨ k = 8) ∨ b.length = 0) ∧ (k = 6 ∨ l.length = 0) ∧ ((k = 7 ∨ k = 8) ∨ d.length = 0)
theorem spare_of_may {p k n : Int} {b : List UInt8} {l : List O} {d : List (List UInt8 × O)} (h : MayO p (.mk k n b l d)) : SpareO k n b l d := by
  obtain ⟨u1, u2, u3, u4, u5, u6, u7, u8, u9, -⟩ := mayO_iff.1 h
  refine ⟨?_, ?_, ?_, ?_⟩
  · by_cases h1 : k = 1 ∨ k = 2 ∨ k = 3 ∨ k = 9
    · exact .inl h1
    · exact .inr (u9 (fun e => h1 (by omega)) (fun e => h1 (by omega)) (fun e => h1 (by omega)) (fun e => h1 (by omega)))
  · cases b with
    | nil => exact .inr rfl
    | cons => exact .inl (u3 (by simp))
  · cases l with
    | nil => exact .inr rfl
    | cons => exact .inl (u1 (by simp))
  · cases d with
    | nil => exact .inr rfl
    | cons => exact .inl (u2 (by simp))
theorem indexByte_ge0 (c : UInt8) : ∀ b : List UInt8, (0 : Int) ≤ indexByte b c ↔ c ∈ b
  | [] => by simp [indexByte]
  | x :: b => by
    have ih := indexByte_ge0 c b
    have hge := indexByte_ge b c
    rw [indexByte, List.mem_cons]
    by_cases h : (x == c) = true
    · rw [if_pos h]
      have := eq_of_beq h
      simp [this]
    · rw [if_neg h]
      have hne : ¬ c = x := fun e => h (by rw [e]; simp)
      by_cases h2 : (indexByte b c == -1) = true
      · rw [if_pos h2]
        have := eq_of_beq h2
        constructor
        · intro h; omega
        · rintro (h | h)
          · exact absurd h hne
          · have := ih.2 h; omega
      · rw [if_neg h2]
        have h2' : ¬ indexByte b c = -1 := fun e => h2 (by rw [e]; rfl)
        constructor
        · intro _; exact .inr (ih.1 (by omega))
        · intro _; omega
theorem nameB_iff (b : List UInt8) : NameB b ↔ b.length ≤ 127 ∧ ¬ (0 : Int) ≤ firstIdx ⟨b.toArray⟩ 0 := by
  rw [Go.Lib.firstIdx_eq, show (⟨b.toArray⟩ : ByteArray).data.toList = b from by simp, indexByte_ge0]
  unfold NameB
  refine and_congr_right fun _ => ?_
  constructor
  · intro h hm
    obtain ⟨i, hi, e⟩ := List.getElem_of_mem hm
    exact h i hi (by rw [e]; rfl)
  · intro h i hi e
    refine h ?_
    have : b[i] = 0 := by
      rw [← UInt8.toNat_inj]; exact e
    rw [← this]
    exact List.getElem_mem hi
end Go.Cl
namespace Go.Proofs.Ytdhdhbkikhedlaa
open Go.Cl Go.Lib
structure LibM (lib : Prims) : Prop where
  may : lib.at 57 = none
  spare : lib.at 68 = none
  within : lib.at 69 = none
  name : lib.at 70 = none
  inner : lib.at 73 = none
  entries : lib.at 46 = none
  c1 : lib.at 72 = none
  c2 : lib.at 75 = none
  c3 : lib.at 77 = none
  hasO : lib.at 71 = none
  hasE : lib.at 76 = none
  idxO : lib.at 80 = none
  idxE : lib.at 62 = none
  sorted : lib.at 74 = none
  vo : lib.at 81 = some (pValueOf Try.prog)
  vl : lib.at 82 = some (pLen Try.prog)
  cont : lib.at 79 = none
  si : lib.at 84 = none
  sli : lib.at 85 = none
  slb : lib.at 86 = none
  ib : lib.at 90 = some pIndexByteStr
def Ans (p : Prop) (s : ASt) (v : Value) (s' : ASt) : Prop := Answers p v ∧ Stay s.next s s'
theorem within_any {lib : Prims} (L : LibM lib) (s : ASt) (n a b : Int) : Runs Try.prog lib 69 [.int .i64 n, .int .i64 a, .int .i64 b] s (Ans (a ≤ n ∧ n ≤ b) s) := by
  refine Runs.enter 15 Try.func69 rfl L.within rfl rfl ?_
  intro f hn hf
  have h0 : f.get 0 = .int .i64 n := hf 0
  have h1 : f.get 1 = .int .i64 a := hf 1
  have h2 : f.get 2 = .int .i64 b := hf 2
  clear hf
  by_cases c1 : a ≤ n
  · simp (config := { maxSteps := 1000000, implicitDefEqProofs := false }) (disch := omega) only [allW, allR, wfn_ret, wfn_normal, oneOf, evalAll, partsA, optA, Nat.reduceLT, Nat.reduceLeDiff, Nat.reduceEqDiff, Nat.reduceAdd, ↓reduceIte, undef, hn, h0, h1, h2, ge_iff_le, eq_true c1, Try.results69]
    exact ⟨⟨_, rfl, by simp [c1]⟩, Stay.refl _ _⟩
  simp (config := { maxSteps := 1000000, implicitDefEqProofs := false }) (disch := omega) only [allW, allR, wfn_ret, wfn_normal, oneOf, evalAll, partsA, optA, Nat.reduceLT, Nat.reduceLeDiff, Nat.reduceEqDiff, Nat.reduceAdd, ↓reduceIte, undef, hn, h0, h1, h2, ge_iff_le, eq_false c1, Try.results69]
  exact ⟨⟨_, rfl, by simp [c1]⟩, Stay.refl _ _⟩
theorem sindexByte_any {lib : Prims} (L : LibM lib) (s : ASt) (b : ByteArray) (c : Int) : Runs Try.prog lib 86 [.string b, .int .u8 c] s fun v s' => v = .int .i64 (firstIdx b c.toNat.toUInt8) ∧ s' = s := by
  refine Runs.enter 8 Try.func86 rfl L.slb rfl rfl ?_
  intro f hn hf
  have h0 : f.get 0 = .string b := hf 0
  have h1 : f.get 1 = .int .u8 c := hf 1
  clear hf
  simp (config := { maxSteps := 1000000, implicitDefEqProofs := false }) (disch := omega) only [allW, allR, oneOf, evalAll, partsA, optA, Nat.reduceLT, Nat.reduceLeDiff, Nat.reduceEqDiff, Nat.reduceAdd, ↓reduceIte, hn, h0, h1]
  refine Runs.prim (v := .int .i64 (firstIdx b c.toNat.toUInt8)) (s' := s) L.ib pIndexByteStr_fr rfl ?_
  simp (config := { maxSteps := 1000000, implicitDefEqProofs := false }) (disch := omega) only [allW, allR, wfn_ret, wfn_normal, oneOf, evalAll, partsA, optA, Nat.reduceLT, Nat.reduceLeDiff, Nat.reduceEqDiff, Nat.reduceAdd, ↓reduceIte, hn, Try.results86]
theorem contains_any {lib : Prims} (L : LibM lib) (s : ASt) (b : List UInt8) : Runs Try.prog lib 79 [.string ⟨b.toArray⟩, .string ⟨#[0]⟩] s fun v s' => v = .bool (decide ((0 : Int) ≤ firstIdx ⟨b.toArray⟩ 0)) ∧ s' = s := by
  refine Runs.enter 9 Try.func79 rfl L.cont rfl rfl ?_
  intro f hn hf
  have h0 : f.get 0 = .string ⟨b.toArray⟩ := hf 0
  have h1 : f.get 1 = .string ⟨#[0]⟩ := hf 1
  clear hf
  simp (config := { maxSteps := 1000000, implicitDefEqProofs := false }) (disch := omega) only [allW, allR, oneOf, evalAll, partsA, optA, Nat.reduceLT, Nat.reduceLeDiff, Nat.reduceEqDiff, Nat.reduceAdd, ↓reduceIte, hn, h0, h1]
  refine Runs.mono (Q := fun v s' => v = .int .i64 (firstIdx ⟨b.toArray⟩ 0) ∧ s' = s) ?_ ?_
  · clear hn h0 h1 f
    refine Runs.enter 8 Try.func84 rfl L.si rfl rfl ?_
    intro f hn hf
    have h0 : f.get 0 = .string ⟨b.toArray⟩ := hf 0
    have h1 : f.get 1 = .string ⟨#[0]⟩ := hf 1
    clear hf
    simp (config := { maxSteps := 1000000, implicitDefEqProofs := false }) (disch := omega) only [allW, allR, oneOf, evalAll, partsA, optA, Nat.reduceLT, Nat.reduceLeDiff, Nat.reduceEqDiff, Nat.reduceAdd, ↓reduceIte, hn, h0, h1]
    refine Runs.mono (Q := fun v s' => v = .int .i64 (firstIdx ⟨b.toArray⟩ 0) ∧ s' = s) ?_ ?_
    · clear hn h0 h1 f
      refine Runs.enter 143 Try.func85 rfl L.sli rfl rfl ?_
      intro f hn hf
      have h0 : f.get 0 = .string ⟨b.toArray⟩ := hf 0
      have h1 : f.get 1 = .string ⟨#[0]⟩ := hf 1
      clear hf
      have hlen : lenA Try.prog s 9 (.string ⟨#[0]⟩) = some (.int .i64 1) := by kernel_rfl
      have hix : indexA Try.prog 9 (.string ⟨#[0]⟩) (.int .i64 0) = some (.int .u8 0) := by kernel_rfl
      have d0 : ¬ (1 : Int) = 0 := by decide
      by_cases hb : [0] = b
      · simp (config := { maxSteps := 1000000, implicitDefEqProofs := false }) (disch := omega) only [allW, allR, wfn_ret, wfn_normal, oneOf, evalAll, partsA, optA, Nat.reduceLT, Nat.reduceLeDiff, Nat.reduceEqDiff, Nat.reduceAdd, ↓reduceIte, undef, hn, h0, h1, hlen, eq_false d0, str_eql, eq_true hb, Try.results85]
        subst hb
        rfl
      simp (config := { maxSteps := 1000000, implicitDefEqProofs := false }) (disch := omega) only [allW, allR, oneOf, evalAll, partsA, optA, Nat.reduceLT, Nat.reduceLeDiff, Nat.reduceEqDiff, Nat.reduceAdd, ↓reduceIte, undef, hn, h0, h1, hlen, eq_false d0, str_eql, eq_false hb, hix]
      refine (sindexByte_any L s _ 0).mono ?_
      rintro _ _ ⟨rfl, rfl⟩
      simp (config := { maxSteps := 1000000, implicitDefEqProofs := false }) (disch := omega) only [allW, allR, wfn_ret, wfn_normal, oneOf, evalAll, partsA, optA, Nat.reduceLT, Nat.reduceLeDiff, Nat.reduceEqDiff, Nat.reduceAdd, ↓reduceIte, hn, Try.results85]
      rfl
    · rintro _ _ ⟨rfl, rfl⟩
      simp (config := { maxSteps := 1000000, implicitDefEqProofs := false }) (disch := omega) only [allW, allR, wfn_ret, wfn_normal, oneOf, evalAll, partsA, optA, Nat.reduceLT, Nat.reduceLeDiff, Nat.reduceEqDiff, Nat.reduceAdd, ↓reduceIte, hn, Try.results84]
  · rintro _ _ ⟨rfl, rfl⟩
    simp (config := { maxSteps := 1000000, implicitDefEqProofs := false }) (disch := omega) only [allW, allR, wfn_ret, wfn_normal, oneOf, evalAll, partsA, optA, Nat.reduceLT, Nat.reduceLeDiff, Nat.reduceEqDiff, Nat.reduceAdd, ↓reduceIte, hn, ge_iff_le, Try.results79]
theorem nameB_any {lib : Prims} (L : LibM lib) (s : ASt) (b : List UInt8) (hb : b.length ≤ 9223372036854775807) : Runs Try.prog lib 70 [.string ⟨b.toArray⟩] s (Ans (NameB b) s) := by
  refine Runs.enter 11 Try.func70 rfl L.name rfl rfl ?_
  intro f hn hf
  have h0 : f.get 0 = .string ⟨b.toArray⟩ := hf 0
  clear hf
  by_cases c1 : ((b.length : Nat) : Int) ≤ 127
  · simp (config := { maxSteps := 1000000, implicitDefEqProofs := false }) (disch := omega) only [allW, allR, oneOf, evalAll, partsA, optA, Nat.reduceLT, Nat.reduceLeDiff, Nat.reduceEqDiff, Nat.reduceAdd, ↓reduceIte, undef, hn, h0, str_len Try.underlying9, eq_true c1]
    refine (contains_any L s b).mono ?_
    rintro _ _ ⟨rfl, rfl⟩
    simp (config := { maxSteps := 1000000, implicitDefEqProofs := false }) (disch := omega) only [allW, allR, wfn_ret, wfn_normal, oneOf, evalAll, partsA, optA, Nat.reduceLT, Nat.reduceLeDiff, Nat.reduceEqDiff, Nat.reduceAdd, ↓reduceIte, hn, Try.results70]
    refine ⟨⟨_, rfl, ?_⟩, Stay.refl _ _⟩
    rw [nameB_iff]
    simp only [Bool.not_eq_true', decide_eq_false_iff_not]
    exact ⟨fun h => ⟨by omega, h⟩, fun h => h.2⟩
  simp (config := { maxSteps := 1000000, implicitDefEqProofs := false }) (disch := omega) only [allW, allR, wfn_ret, wfn_normal, oneOf, evalAll, partsA, optA, Nat.reduceLT, Nat.reduceLeDiff, Nat.reduceEqDiff, Nat.reduceAdd, ↓reduceIte, undef, hn, h0, str_len Try.underlying9, eq_false c1, Try.results70]
  exact ⟨⟨_, rfl, fun h => by (cases h), fun h => absurd h.1 (by omega)⟩, Stay.refl _ _⟩
set_option maxHeartbeats 4000000 in
theorem spare_any {lib : Prims} (L : LibM lib) (F : Nat → Prop) (s : ASt) (k n : Int) (b : List UInt8) (l : List O) (d : List (List UInt8 × O)) (cs : List Value) (ho : OIs F s cs (.mk k n b l d)) (hfit : Fit (.mk k n b l d)) : Runs Try.prog lib 68 [.agg cs.toArray] s (Ans (SpareO k n b l d) s) := by
  have ho0 := ho
  obtain ⟨bv, lv, dv, lc, dc, rfl, hb, hL, hD, -⟩ := ho.parts
  cases hfit with
  | mk hfb hfl hfd hfK hfL hfD =>
  refine Runs.enter 72 Try.func68 rfl L.spare rfl rfl ?_
  intro f hn hf
  have h0 : f.get 0 = .agg #[.int .i64 k, .int .i64 n, bv, lv, dv] := hf 0
  clear hf
  simp (config := { maxSteps := 1000000, implicitDefEqProofs := false }) (disch := omega) only [allW, allR, oneOf, evalAll, partsA, optA, Nat.reduceLT, Nat.reduceLeDiff, Nat.reduceEqDiff, Nat.reduceAdd, ↓reduceIte, hn, h0]
  refine wstep_newPtr ?_
  intro s1 ht hst hnx
  have p0 : loadA Try.prog s1 3 (.pointer (some ⟨s.next, 0, some 6⟩)) = some (.int .i64 k) := ht.load agInt (off := 0) (c := 6) rfl (by simp)
  have p1 : loadA Try.prog s1 2 (.pointer (some ⟨s.next, 1, some 6⟩)) = some (.int .i64 n) := ht.load agI64 (off := 1) (c := 6) rfl (by simp)
  have p2 : loadA Try.prog s1 22 (.pointer (some ⟨s.next, 2, some 6⟩)) = some bv := ht.load agSl (off := 2) (c := 6) rfl (by simp)
  have p3 : loadA Try.prog s1 23 (.pointer (some ⟨s.next, 3, some 6⟩)) = some lv := ht.load agLs (off := 3) (c := 6) rfl (by simp)
  have p4 : loadA Try.prog s1 24 (.pointer (some ⟨s.next, 4, some 6⟩)) = some dv := ht.load agDs (off := 4) (c := 6) rfl (by simp)
  have la := Thing.loadAll (P := Try.prog) (cs := [.int .i64 k, .int .i64 n, bv, lv, dv]) agO szO ht (c := 6) rfl
  have eb := hb.keeps hst
  have eL := hL.keeps hst
  have eD := hD.keeps hst
  simp (config := { maxSteps := 1000000, implicitDefEqProofs := false }) (disch := omega) only [allW, allR, oneOf, evalAll, partsA, optA, Nat.reduceLT, Nat.reduceLeDiff, Nat.reduceEqDiff, Nat.reduceAdd, ↓reduceIte, hn, h0, of0, p0, List.length_cons, List.length_nil]
  refine wwant_cut (fun f' s' => s' = s1 ∧ f'.n = 72 ∧ f'.get 1 = .pointer (some ⟨s.next, 0, some 6⟩) ∧ ∃ t : Bool, f'.get 3 = .bool t ∧ (t = true ↔ (k = 1 ∨ k = 2 ∨ k = 3 ∨ k = 9))) ?_ ?_
  · intro Q' hQ
    by_cases c1 : k = 1
    · simp (config := { maxSteps := 1000000, implicitDefEqProofs := false }) (disch := omega) only [allW, allR, oneOf, evalAll, partsA, optA, Nat.reduceLT, Nat.reduceLeDiff, Nat.reduceEqDiff, Nat.reduceAdd, ↓reduceIte, undef, hn, h0, of0, p0, eq_true c1]
      exact hQ _ _ ⟨rfl, by simp only [get_put, n_put, ↓reduceIte, Nat.reduceEqDiff, hn], by simp only [get_put, n_put, ↓reduceIte, Nat.reduceEqDiff], true, by simp only [get_put, n_put, ↓reduceIte, Nat.reduceEqDiff], by simp [c1]⟩
    by_cases c2 : k = 2
    · simp (config := { maxSteps := 1000000, implicitDefEqProofs := false }) (disch := omega) only [allW, allR, oneOf, evalAll, partsA, optA, Nat.reduceLT, Nat.reduceLeDiff, Nat.reduceEqDiff, Nat.reduceAdd, ↓reduceIte, undef, hn, h0, of0, p0, eq_false c1, eq_true c2]
      exact hQ _ _ ⟨rfl, by simp only [get_put, n_put, ↓reduceIte, Nat.reduceEqDiff, hn], by simp only [get_put, n_put, ↓reduceIte, Nat.reduceEqDiff], true, by simp only [get_put, n_put, ↓reduceIte, Nat.reduceEqDiff], by simp [c2]⟩
    by_cases c3 : k = 3
    · simp (config := { maxSteps := 1000000, implicitDefEqProofs := false }) (disch := omega) only [allW, allR, oneOf, evalAll, partsA, optA, Nat.reduceLT, Nat.reduceLeDiff, Nat.reduceEqDiff, Nat.reduceAdd, ↓reduceIte, undef, hn, h0, of0, p0, eq_false c1, eq_false c2, eq_true c3]
      exact hQ _ _ ⟨rfl, by simp only [get_put, n_put, ↓reduceIte, Nat.reduceEqDiff, hn], by simp only [get_put, n_put, ↓reduceIte, Nat.reduceEqDiff], true, by simp only [get_put, n_put, ↓reduceIte, Nat.reduceEqDiff], by simp [c3]⟩
    simp (config := { maxSteps := 1000000, implicitDefEqProofs := false }) (disch := omega) only [allW, allR, oneOf, evalAll, partsA, optA, Nat.reduceLT, Nat.reduceLeDiff, Nat.reduceEqDiff, Nat.reduceAdd, ↓reduceIte, undef, hn, h0, of0, p0, eq_false c1, eq_false c2, eq_false c3]
    exact hQ _ _ ⟨rfl, by simp only [get_put, n_put, ↓reduceIte, Nat.reduceEqDiff, hn], by simp only [get_put, n_put, ↓reduceIte, Nat.reduceEqDiff], decide (k = 9), by simp only [get_put, n_put, ↓reduceIte, Nat.reduceEqDiff], by simp [c1, c2, c3]⟩
  clear hn h0 f
  rintro f s' ⟨hs', hn, h1, tn, h3, htn⟩
  rw [hs']
  simp (config := { maxSteps := 1000000, implicitDefEqProofs := false }) (disch := omega) only [allW, allR, oneOf, evalAll, partsA, optA, Nat.reduceLT, Nat.reduceLeDiff, Nat.reduceEqDiff, Nat.reduceAdd, ↓reduceIte, hn, h1, of0, p0]
  refine wwant_cut (fun f' s' => s' = s1 ∧ f'.n = 72 ∧ f'.get 1 = .pointer (some ⟨s.next, 0, some 6⟩) ∧ f'.get 3 = .bool tn ∧ ∃ t : Bool, f'.get 4 = .bool t ∧ (t = true ↔ (k = 4 ∨ k = 5 ∨ k = 8))) ?_ ?_
  · intro Q' hQ
    by_cases c1 : k = 4
    · simp (config := { maxSteps := 1000000, implicitDefEqProofs := false }) (disch := omega) only [allW, allR, oneOf, evalAll, partsA, optA, Nat.reduceLT, Nat.reduceLeDiff, Nat.reduceEqDiff, Nat.reduceAdd, ↓reduceIte, undef, hn, h1, of0, p0, eq_true c1]
      exact hQ _ _ ⟨rfl, by simp only [get_put, n_put, ↓reduceIte, Nat.reduceEqDiff, hn], by simp only [get_put, n_put, ↓reduceIte, Nat.reduceEqDiff, h1], by simp only [get_put, n_put, ↓reduceIte, Nat.reduceEqDiff, h3], true, by simp only [get_put, n_put, ↓reduceIte, Nat.reduceEqDiff], by simp [c1]⟩
    by_cases c2 : k = 5
    · simp (config := { maxSteps := 1000000, implicitDefEqProofs := false }) (disch := omega) only [allW, allR, oneOf, evalAll, partsA, optA, Nat.reduceLT, Nat.reduceLeDiff, Nat.reduceEqDiff, Nat.reduceAdd, ↓reduceIte, undef, hn, h1, of0, p0, eq_false c1, eq_true c2]
      exact hQ _ _ ⟨rfl, by simp only [get_put, n_put, ↓reduceIte, Nat.reduceEqDiff, hn], by simp only [get_put, n_put, ↓reduceIte, Nat.reduceEqDiff, h1], by simp only [get_put, n_put, ↓reduceIte, Nat.reduceEqDiff, h3], true, by simp only [get_put, n_put, ↓reduceIte, Nat.reduceEqDiff], by simp [c2]⟩
    simp (config := { maxSteps := 1000000, implicitDefEqProofs := false }) (disch := omega) only [allW, allR, oneOf, evalAll, partsA, optA, Nat.reduceLT, Nat.reduceLeDiff, Nat.reduceEqDiff, Nat.reduceAdd, ↓reduceIte, undef, hn, h1, of0, p0, eq_false c1, eq_false c2]
    exact hQ _ _ ⟨rfl, by simp only [get_put, n_put, ↓reduceIte, Nat.reduceEqDiff, hn], by simp only [get_put, n_put, ↓reduceIte, Nat.reduceEqDiff, h1], by simp only [get_put, n_put, ↓reduceIte, Nat.reduceEqDiff, h3], decide (k = 8), by simp only [get_put, n_put, ↓reduceIte, Nat.reduceEqDiff], by simp [c1, c2]⟩
  clear hn h1 h3 f
  rintro f s' ⟨hs', hn, h1, h3, tt, h4, htt⟩
  rw [hs']
  simp (config := { maxSteps := 1000000, implicitDefEqProofs := false }) (disch := omega) only [allW, allR, oneOf, evalAll, partsA, optA, Nat.reduceLT, Nat.reduceLeDiff, Nat.reduceEqDiff, Nat.reduceAdd, ↓reduceIte, hn, h1, h3, h4]
  refine wwant_cutAt 4 (fun f' s' => s' = s1 ∧ f'.n = 72 ∧ f'.get 1 = .pointer (some ⟨s.next, 0, some 6⟩) ∧ f'.get 4 = .bool tt ∧ ∃ t : Bool, f'.get 42 = .bool t ∧ (t = true ↔ ((k = 1 ∨ k = 2 ∨ k = 3 ∨ k = 9) ∨ n = 0))) ?_ ?_
  · intro Q' hQ
    cases tn with
    | true =>
      simp (config := { maxSteps := 1000000, implicitDefEqProofs := false }) (disch := omega) only [allW, allR, oneOf, evalAll, partsA, optA, Nat.reduceLT, Nat.reduceLeDiff, Nat.reduceEqDiff, Nat.reduceAdd, ↓reduceIte, undef, hn, h1, h4, List.take_succ_cons, List.take_zero]
      exact hQ _ _ ⟨rfl, by simp only [get_put, n_put, ↓reduceIte, Nat.reduceEqDiff, hn], by simp only [get_put, n_put, ↓reduceIte, Nat.reduceEqDiff, h1], by simp only [get_put, n_put, ↓reduceIte, Nat.reduceEqDiff, h4], true, by simp only [get_put, n_put, ↓reduceIte, Nat.reduceEqDiff], ⟨fun _ => .inl (htn.1 rfl), fun _ => rfl⟩⟩
    | false =>
      simp (config := { maxSteps := 1000000, implicitDefEqProofs := false }) (disch := omega) only [allW, allR, oneOf, evalAll, partsA, optA, Nat.reduceLT, Nat.reduceLeDiff, Nat.reduceEqDiff, Nat.reduceAdd, ↓reduceIte, undef, hn, h1, h4, of1, p1, List.take_succ_cons, List.take_zero]
      exact hQ _ _ ⟨rfl, by simp only [get_put, n_put, ↓reduceIte, Nat.reduceEqDiff, hn], by simp only [get_put, n_put, ↓reduceIte, Nat.reduceEqDiff, h1], by simp only [get_put, n_put, ↓reduceIte, Nat.reduceEqDiff, h4], decide (n = 0), by simp only [get_put, n_put, ↓reduceIte, Nat.reduceEqDiff], ⟨fun h => .inr (of_decide_eq_true h), fun h => h.elim (fun h => absurd (htn.2 h) (by decide)) fun h => decide_eq_true h⟩⟩
  clear hn h1 h3 h4 f
  rintro f s' ⟨hs', hn, h1, h4, u1, h42, hu1⟩
  rw [hs']
  cases u1 with
  | false =>
    simp (config := { maxSteps := 1000000, implicitDefEqProofs := false }) (disch := omega) only [allW, allR, wfn_ret, wfn_normal, oneOf, evalAll, partsA, optA, Nat.reduceLT, Nat.reduceLeDiff, Nat.reduceEqDiff, Nat.reduceAdd, ↓reduceIte, undef, hn, h1, h4, h42, List.drop_succ_cons, List.drop_zero, Try.results68]
    exact ⟨.no (fun h => Bool.noConfusion (hu1.2 h.1)), hst⟩
  | true =>
  simp (config := { maxSteps := 1000000, implicitDefEqProofs := false }) (disch := omega) only [allW, allR, oneOf, evalAll, partsA, optA, Nat.reduceLT, Nat.reduceLeDiff, Nat.reduceEqDiff, Nat.reduceAdd, ↓reduceIte, undef, hn, h1, h4, h42, List.drop_succ_cons, List.drop_zero]
  refine wwant_cutAt 6 (fun f' s' => s' = s1 ∧ f'.n = 72 ∧ f'.get 1 = .pointer (some ⟨s.next, 0, some 6⟩) ∧ ∃ t : Bool, f'.get 51 = .bool t ∧ (t = true ↔ ((k = 4 ∨ k = 5 ∨ k = 8) ∨ b.length = 0))) ?_ ?_
  · intro Q' hQ
    cases tt with
    | true =>
      simp (config := { maxSteps := 1000000, implicitDefEqProofs := false }) (disch := omega) only [allW, allR, oneOf, evalAll, partsA, optA, Nat.reduceLT, Nat.reduceLeDiff, Nat.reduceEqDiff, Nat.reduceAdd, ↓reduceIte, undef, hn, h1, h42, List.take_succ_cons, List.take_zero]
      exact hQ _ _ ⟨rfl, by simp only [get_put, n_put, ↓reduceIte, Nat.reduceEqDiff, hn], by simp only [get_put, n_put, ↓reduceIte, Nat.reduceEqDiff, h1], true, by simp only [get_put, n_put, ↓reduceIte, Nat.reduceEqDiff], ⟨fun _ => .inl (htt.1 rfl), fun _ => rfl⟩⟩
    | false =>
      simp (config := { maxSteps := 1000000, implicitDefEqProofs := false }) (disch := omega) only [allW, allR, oneOf, evalAll, partsA, optA, Nat.reduceLT, Nat.reduceLeDiff, Nat.reduceEqDiff, Nat.reduceAdd, ↓reduceIte, undef, hn, h1, h42, of2, p2, eb.lenA Try.underlying22, List.take_succ_cons, List.take_zero]
      exact hQ _ _ ⟨rfl, by simp only [get_put, n_put, ↓reduceIte, Nat.reduceEqDiff, hn], by simp only [get_put, n_put, ↓reduceIte, Nat.reduceEqDiff, h1], decide (((b.length : Nat) : Int) = 0), by simp only [get_put, n_put, ↓reduceIte, Nat.reduceEqDiff], ⟨fun h => .inr (by have := of_decide_eq_true h; omega), fun h => h.elim (fun h => absurd (htt.2 h) (by decide)) fun h => decide_eq_true (by omega)⟩⟩
  clear hn h1 h4 h42 f
  rintro f s' ⟨hs', hn, h1, u2, h51, hu2⟩
  rw [hs']
  cases u2 with
  | false =>
    simp (config := { maxSteps := 1000000, implicitDefEqProofs := false }) (disch := omega) only [allW, allR, wfn_ret, wfn_normal, oneOf, evalAll, partsA, optA, Nat.reduceLT, Nat.reduceLeDiff, Nat.reduceEqDiff, Nat.reduceAdd, ↓reduceIte, undef, hn, h1, h51, List.drop_succ_cons, List.drop_zero, Try.results68]
    exact ⟨.no (fun h => Bool.noConfusion (hu2.2 h.2.1)), hst⟩
  | true =>
  simp (config := { maxSteps := 1000000, implicitDefEqProofs := false }) (disch := omega) only [allW, allR, oneOf, evalAll, partsA, optA, Nat.reduceLT, Nat.reduceLeDiff, Nat.reduceEqDiff, Nat.reduceAdd, ↓reduceIte, undef, hn, h1, h51, of0, p0, List.drop_succ_cons, List.drop_zero]
  refine wwant_cutAt 6 (fun f' s' => s' = s1 ∧ f'.n = 72 ∧ f'.get 1 = .pointer (some ⟨s.next, 0, some 6⟩) ∧ ∃ t : Bool, f'.get 62 = .bool t ∧ (t = true ↔ (k = 6 ∨ l.length = 0))) ?_ ?_
  · intro Q' hQ
    by_cases c6 : k = 6
    · simp (config := { maxSteps := 1000000, implicitDefEqProofs := false }) (disch := omega) only [allW, allR, oneOf, evalAll, partsA, optA, Nat.reduceLT, Nat.reduceLeDiff, Nat.reduceEqDiff, Nat.reduceAdd, ↓reduceIte, undef, hn, h1, h51, eq_true c6, List.take_succ_cons, List.take_zero]
      exact hQ _ _ ⟨rfl, by simp only [get_put, n_put, ↓reduceIte, Nat.reduceEqDiff, hn], by simp only [get_put, n_put, ↓reduceIte, Nat.reduceEqDiff, h1], true, by simp only [get_put, n_put, ↓reduceIte, Nat.reduceEqDiff], ⟨fun _ => .inl c6, fun _ => by first | rfl | simp⟩⟩
    · simp (config := { maxSteps := 1000000, implicitDefEqProofs := false }) (disch := omega) only [allW, allR, oneOf, evalAll, partsA, optA, Nat.reduceLT, Nat.reduceLeDiff, Nat.reduceEqDiff, Nat.reduceAdd, ↓reduceIte, undef, hn, h1, h51, eq_false c6, of3, p3, eL.lenA Try.underlying23, List.take_succ_cons, List.take_zero]
      exact hQ _ _ ⟨rfl, by simp only [get_put, n_put, ↓reduceIte, Nat.reduceEqDiff, hn], by simp only [get_put, n_put, ↓reduceIte, Nat.reduceEqDiff, h1], decide (((l.length : Nat) : Int) = 0), by simp only [get_put, n_put, ↓reduceIte, Nat.reduceEqDiff], ⟨fun h => .inr (by have := of_decide_eq_true h; omega), fun h => decide_eq_true (by omega)⟩⟩
  clear hn h1 h51 f
  rintro f s' ⟨hs', hn, h1, u3, h62, hu3⟩
  rw [hs']
  cases u3 with
  | false =>
    simp (config := { maxSteps := 1000000, implicitDefEqProofs := false }) (disch := omega) only [allW, allR, wfn_ret, wfn_normal, oneOf, evalAll, partsA, optA, Nat.reduceLT, Nat.reduceLeDiff, Nat.reduceEqDiff, Nat.reduceAdd, ↓reduceIte, undef, hn, h1, h62, List.drop_succ_cons, List.drop_zero, Try.results68]
    exact ⟨.no (fun h => Bool.noConfusion (hu3.2 h.2.2.1)), hst⟩
  | true =>
  simp (config := { maxSteps := 1000000, implicitDefEqProofs := false }) (disch := omega) only [allW, allR, oneOf, evalAll, partsA, optA, Nat.reduceLT, Nat.reduceLeDiff, Nat.reduceEqDiff, Nat.reduceAdd, ↓reduceIte, undef, hn, h1, h62, la, List.drop_succ_cons, List.drop_zero]
  refine (entries_any L.entries F s1 _ _ (ho0.keeps hst)).mono ?_
  rintro _ s2 ⟨rfl, hst2⟩
  have hs2 : Stay s.next s s2 := hst.trans (hst2.weaken hst.next)
  have q4 : loadA Try.prog s2 24 (.pointer (some ⟨s.next, 4, some 6⟩)) = some dv := (ht.keeps hst2).load agDs (off := 4) (c := 6) rfl (by simp)
  have eD2 := hD.keeps hs2
  cases hh : (O.mk k n b l d).has with
  | true =>
    have hh' : (decide (k = 7) || decide (k = 8)) = true := hh
    have h78 : k = 7 ∨ k = 8 := (Bool.or_eq_true_iff.1 hh').imp of_decide_eq_true of_decide_eq_true
    simp (config := { maxSteps := 1000000, implicitDefEqProofs := false }) (disch := omega) only [allW, allR, wfn_ret, wfn_normal, oneOf, evalAll, partsA, optA, Nat.reduceLT, Nat.reduceLeDiff, Nat.reduceEqDiff, Nat.reduceAdd, ↓reduceIte, undef, hn, h1, h62, Try.results68]
    exact ⟨.yes ⟨hu1.1 rfl, hu2.1 rfl, hu3.1 rfl, .inl h78⟩, hs2⟩
  | false =>
    have hh' : (decide (k = 7) || decide (k = 8)) = false := hh
    have h78 : ¬ (k = 7 ∨ k = 8) := fun h => by
      rcases h with h | h <;> simp [h] at hh'
    simp (config := { maxSteps := 1000000, implicitDefEqProofs := false }) (disch := omega) only [allW, allR, wfn_ret, wfn_normal, oneOf, evalAll, partsA, optA, Nat.reduceLT, Nat.reduceLeDiff, Nat.reduceEqDiff, Nat.reduceAdd, ↓reduceIte, undef, hn, h1, h62, of4, q4, eD2.lenA Try.underlying24, Try.results68]
    exact ⟨⟨_, rfl, fun h => ⟨hu1.1 rfl, hu2.1 rfl, hu3.1 rfl, .inr (by have := of_decide_eq_true h; omega)⟩, fun h => decide_eq_true (by have := h.2.2.2; omega)⟩, hs2⟩
end Go.Proofs.Ytdhdhbkikhedlaa
