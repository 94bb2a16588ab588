/-
  The statement CursorParts: parts put together are all their bytes; each part is found where it was put, or ahead of it: the law returns true.
  Conditions: none.
-/
import Derived.Test.YtndlajhkbepafaaRows
import Derived.Test.YtndlajhkbepafaaStart
import Derived.Test.YtndlajhkbepafaaCurR
import Derived.Test.YtndlajhkbepafaaCurK
import Derived.Test.YtndlajhkbepafaaJoin
import Derived.Test.YtndlajhkbepafaaArgB
set_option linter.unusedSimpArgs false
set_option linter.unusedVariables false
set_option maxRecDepth 100000
namespace Go.Cl.Fi
theorem lastF_ge {l b : List UInt8} {a : Nat} (h : (l.drop a).take b.length = b) : ∀ k, a < k → (a : Int) ≤ lastF l b k
  | 0, hk => by omega
  | k + 1, hk => by
    unfold lastF
    by_cases c : (l.drop k).take b.length = b
    · rw [if_pos c]; omega
    · rw [if_neg c]
      have : a ≠ k := fun e => c (by rw [← e]; exact h)
      exact lastF_ge h k (by omega)
theorem find_first {l b : List UInt8} {a : Nat} (h : (l.drop a).take b.length = b) (ha : a + b.length ≤ l.length) : 0 ≤ findOf l b 0 ∧ findOf l b 0 ≤ a := by
  unfold findOf
  rcases findF_ge (l := l) (b := b) (n := l.length + 1 - b.length - 0) (k := 0) with e | ⟨i, h1, h2, h3, h4⟩
  · exact absurd (by rw [Nat.zero_add]; exact h) (findF_none e a (by omega))
  · rw [h1]
    have : i ≤ a := Nat.le_of_not_lt fun hlt => h4 a hlt (by rw [Nat.zero_add]; exact h)
    omega
theorem find_at {l b : List UInt8} {a : Nat} (h : (l.drop a).take b.length = b) (ha : a + b.length ≤ l.length) : findOf l b a = a := by
  unfold findOf
  obtain ⟨n, hn⟩ : ∃ n, l.length + 1 - b.length - a = n + 1 := ⟨l.length - b.length - a, by omega⟩
  rw [hn, findF, if_pos h]
theorem last_at {l b : List UInt8} {a : Nat} (h : (l.drop a).take b.length = b) (ha : a + b.length ≤ l.length) : (a : Int) ≤ lastOf l b := by
  unfold lastOf
  rw [if_pos (by omega)]
  exact lastF_ge h _ (by omega)
theorem part_at {L : List (List UInt8)} {w : Nat} (hw : w < L.length) : (L.flatten.drop (L.take w).flatten.length).take (L[w]).length = L[w] ∧ (L.take w).flatten.length + (L[w]).length ≤ L.flatten.length := by
  have e : L.flatten = (L.take w).flatten ++ (L[w] ++ (L.drop (w + 1)).flatten) := by
    conv => lhs; rw [← List.take_append_drop w L]
    rw [List.flatten_append, List.drop_eq_getElem_cons hw, List.flatten_cons]
  refine ⟨?_, by rw [e, List.length_append, List.length_append]; omega⟩
  rw [e, List.drop_left, List.take_left]
end Go.Cl.Fi
namespace Go.Proofs.Ytndlajhkbepafaa.cursorParts
open Go.ChangeShapes Go.WideShapes Go.ChangeAt Go.RowKit Go.Cl Go.Cl.Fi

theorem build3 {P : Program} {s : ASt} {t e : TypeId} {k : IntKind} {a b c : Int} (hu : P.underlying t = some (.slice e)) (hsz : sizeB P e = some 1) (hz : zeroB P e = some (.int k 0)) : buildSliceA P s t 3 [(0, .int k a), (1, .int k b), (2, .int k c)] = newSlice s [.int k a, .int k b, .int k c] 3 1 := by
  unfold buildSliceA; rw [hu]; simp only [hsz, hz]; rfl
theorem conv_self {s : ASt} {v : Value} {n : Nat} {l : List Value} (h : Own s 1 v n l) (hn : 0 < n) : ∃ s', convA Try.prog s 22 22 v = some (v, s') ∧ Stay s.next s s' := by
  cases h with
  | nil => omega
  | of i n low l hi hb hl hlen =>
    obtain ⟨m, rfl⟩ : ∃ m, n = m + 1 := ⟨n - 1, by omega⟩
    refine ⟨s.put i (.blk ⟨l, low, true, 1⟩), ?_, ?_⟩
    · unfold convA
      rw [Try.underlying22]
      simp only [hb]
      have h8 : isU8 Try.prog 5 = true := by unfold isU8; rw [Try.underlying5]
      rw [h8]
      simp [Nat.beq_eq, Nat.ble_eq]
      exact hl
    · have hg : s.heap.get i = some (.blk ⟨l, low, true, 1⟩) := by
        unfold ASt.blk? at hb
        split at hb
        · rename_i b hb'
          injection hb with hb
          rw [hb', hb]
        · cases hb
      refine ⟨Nat.le_refl _, fun j hj => ?_⟩
      by_cases e : i = j
      · subst e; rw [hg]; simp only [ASt.put, Tr.get_set_self _ s.heap i _ (deep (by decide))]
      · exact ASt.get_put_ne s i j _ e
set_option maxHeartbeats 8000000 in
theorem awake_any (s : ASt) : Runs Try.prog libI 8 [] s fun v s' => v = .bool true ∧ Stay s.next s s' := by
  refine Runs.enter 27 Try.func8 rfl rfl rfl rfl ?_
  intro f hn _
  simp (config := { maxSteps := 1000000, implicitDefEqProofs := false }) (disch := omega) only [allW, allR, oneOf, evalAll, partsA, optA, Nat.reduceLT, Nat.reduceLeDiff, Nat.reduceEqDiff, Nat.reduceAdd, ↓reduceIte, hn, build3 Try.underlying22 szU8 zU8]
  refine wstep_newSlice rfl ?_
  intro v s1 hv hvF k1
  have hv : Own s1 1 v ([97, 98, 99] : List UInt8).length (ofBytes [97, 98, 99]) := hv
  obtain ⟨s1', hcv, kc⟩ := conv_self hv (by decide)
  have hv' := hv.keeps kc
  simp (config := { maxSteps := 1000000, implicitDefEqProofs := false }) (disch := omega) only [allW, allR, oneOf, evalAll, partsA, optA, Nat.reduceLT, Nat.reduceLeDiff, Nat.reduceEqDiff, Nat.reduceAdd, ↓reduceIte, hn, hcv]
  refine (new_any (lib := libI) rfl s1'.next s1' v [97, 98, 99] hv'.sees.low (Nat.le_refl _)).mono ?_
  rintro _ s2 ⟨rfl, hc2, k2, n2⟩
  obtain ⟨ic, hic⟩ : ∃ i, i = s1'.next := ⟨_, rfl⟩
  have hc2 : CurIs s1'.next s2 ic [97, 98, 99] 0 := by rw [hic]; exact hc2
  rw [← hic]
  simp (config := { maxSteps := 1000000, implicitDefEqProofs := false }) (disch := omega) only [allW, allR, oneOf, evalAll, partsA, optA, Nat.reduceLT, Nat.reduceLeDiff, Nat.reduceEqDiff, Nat.reduceAdd, ↓reduceIte, hn, neq_pnil Try.underlying24]
  refine (next_any (lib := libI) rfl rfl rfl rfl rfl s1'.next s2 ic [97, 98, 99] 0 hc2 (by omega) (by decide)).mono ?_
  rintro _ s3 ⟨rfl, hc3, to3⟩
  have hc3 : CurIs s1'.next s3 ic [97, 98, 99] 1 := hc3
  have hb97 : byteAt [97, 98, 99] ((0 : Nat) : Int) = 97 := rfl
  simp (config := { maxSteps := 1000000, implicitDefEqProofs := false }) (disch := omega) only [allW, allR, oneOf, evalAll, partsA, optA, Nat.reduceLT, Nat.reduceLeDiff, Nat.reduceEqDiff, Nat.reduceAdd, ↓reduceIte, hn, hb97, decide_true]
  refine (pos_any (lib := libI) rfl s1'.next s3 ic [97, 98, 99] 1 hc3).mono ?_
  rintro _ s4 ⟨rfl, rfl⟩
  simp (config := { maxSteps := 1000000, implicitDefEqProofs := false }) (disch := omega) only [allW, allR, oneOf, evalAll, partsA, optA, Nat.reduceLT, Nat.reduceLeDiff, Nat.reduceEqDiff, Nat.reduceAdd, ↓reduceIte, hn, (show ((1 : Nat) : Int) = 1 from rfl), decide_true]
  refine (len_any (lib := libI) rfl s1'.next s4 ic [97, 98, 99] 1 hc3).mono ?_
  rintro _ s5 ⟨rfl, rfl⟩
  simp (config := { maxSteps := 1000000, implicitDefEqProofs := false }) (disch := omega) only [allW, allR, oneOf, evalAll, partsA, optA, Nat.reduceLT, Nat.reduceLeDiff, Nat.reduceEqDiff, Nat.reduceAdd, ↓reduceIte, hn, (show ((([97, 98, 99] : List UInt8).length : Nat) : Int) = 3 from rfl), decide_true]
  refine (left_any (lib := libI) rfl rfl rfl s1'.next s5 ic [97, 98, 99] 1 hc3 (by decide)).mono ?_
  rintro _ s6 ⟨rfl, rfl⟩
  simp (config := { maxSteps := 1000000, implicitDefEqProofs := false }) (disch := omega) only [allW, allR, wfn_ret, wfn_normal, oneOf, evalAll, partsA, optA, Nat.reduceLT, Nat.reduceLeDiff, Nat.reduceEqDiff, Nat.reduceAdd, ↓reduceIte, hn, (show ((([97, 98, 99] : List UInt8).length - 1 : Nat) : Int) = 2 from rfl), decide_true, Try.results8]
  have kf : Stay s.next s s6 := (((k1.trans (kc.weaken k1.next)).trans (k2.weaken (by have := k1.next; have := kc.next; omega))).trans (to3.keeps (fresh_cptr (by have := k1.next; have := kc.next; omega)) (by have := k1.next; have := kc.next; have := k2.next; omega)))
  first | exact kf | exact ⟨rfl, kf⟩
theorem of_any (s : ASt) (x : Value) (vs : List Value) (L : List (List UInt8)) (hx : Sees s 1 x L.length vs) (hp : Pieces s vs L) (hnl : L.length ≤ 4294967296) (hlen : L.flatten.length ≤ 4294967296) :
    Runs Try.prog libI 26 [x] s (Joined s L.flatten) := by
  refine Runs.enter 5 Try.func26 rfl rfl rfl rfl ?_
  intro f hn hf
  have h0 : f.get 0 = x := hf 0
  clear hf
  simp (config := { maxSteps := 1000000, implicitDefEqProofs := false }) (disch := omega) only [allW, allR, oneOf, evalAll, partsA, optA, Nat.reduceLT, Nat.reduceLeDiff, Nat.reduceEqDiff, Nat.reduceAdd, ↓reduceIte, hn, h0]
  refine (join_any (lib := libI) rfl rfl s x vs L hx hp hnl hlen).mono ?_
  intro v s1 hJ
  simp (config := { maxSteps := 1000000, implicitDefEqProofs := false }) (disch := omega) only [allW, allR, wfn_ret, wfn_normal, oneOf, evalAll, partsA, optA, Nat.reduceLT, Nat.reduceLeDiff, Nat.reduceEqDiff, Nat.reduceAdd, ↓reduceIte, hn, Try.results26]
  exact hJ
set_option maxRecDepth 100000 in
set_option maxHeartbeats 16000000 in
theorem law (s : ASt) (x : Value) (vs : List Value) (L : List (List UInt8)) (hx : Sees s 1 x L.length vs) (hp : PiecesA s vs L) (hk : L.length ≤ 140737488351232) (n1 : Int) (hz1 : (Lit.int .u8 n1).wf = true) :
    Runs Try.prog libI 7 [x, .int .u8 n1] s fun v _ => v = .bool true := by
  obtain ⟨QQ, hQQ⟩ : ∃ QQ : Value → ASt → Prop, QQ = fun v _ => v = .bool true := ⟨_, rfl⟩
  rw [← hQQ]
  have hn0 : 0 ≤ n1 ∧ n1 < 256 := by
    simp [Lit.wf, IntKind.min, IntKind.max, IntKind.bits, IntKind.signed] at hz1
    omega
  obtain ⟨m, rfl⟩ : ∃ m : Nat, n1 = m := ⟨n1.toNat, by omega⟩
  refine Runs.enter 87 Try.func7 rfl rfl rfl rfl ?_
  intro f hn hf
  have h0 : f.get 0 = x := hf 0
  have h1 : f.get 1 = .int .u8 m := hf 1
  clear hf
  simp (config := { maxSteps := 1000000, implicitDefEqProofs := false }) (disch := omega) only [allW, allR, oneOf, evalAll, partsA, optA, Nat.reduceLT, Nat.reduceLeDiff, Nat.reduceEqDiff, Nat.reduceAdd, ↓reduceIte, hn, h0, h1]
  refine (awake_any s).mono ?_
  rintro _ s1 ⟨rfl, k1⟩
  have hx1 := hx.keeps k1
  have hp1 := hp.keeps k1
  by_cases c1 : (L.length : Int) > 60
  · simp (config := { maxSteps := 1000000, implicitDefEqProofs := false }) (disch := omega) only [allW, allR, wfn_ret, wfn_normal, oneOf, evalAll, partsA, optA, Nat.reduceLT, Nat.reduceLeDiff, Nat.reduceEqDiff, Nat.reduceAdd, ↓reduceIte, hn, h0, h1, Bool.not_true, hx1.lenA Try.underlying44, eq_true c1, decide_true, Try.results7]
    rw [hQQ]
  simp (config := { maxSteps := 1000000, implicitDefEqProofs := false }) (disch := omega) only [allW, allR, oneOf, evalAll, partsA, optA, Nat.reduceLT, Nat.reduceLeDiff, Nat.reduceEqDiff, Nat.reduceAdd, ↓reduceIte, hn, h0, h1, Bool.not_true, hx1.lenA Try.underlying44, eq_false c1, decide_false]
  obtain ⟨w, hwm⟩ : ∃ w, w = m % L.length := ⟨_, rfl⟩
  refine Comes.loopOut (fun z f t => ∃ (i : Nat) (a : Value), z = L.length - i ∧ i ≤ L.length ∧ (∀ j (h : j < L.length), j < i → L[j].length ≤ 200) ∧ Own t 1 a (L.take i).flatten.length (ofBytes (L.take i).flatten) ∧ (L.take i).flatten.length ≤ 200 * i ∧ Fresh s1.next a ∧ Stay s1.next s1 t ∧ f.n = 87 ∧ f.get 0 = x ∧ f.get 1 = .int .u8 m ∧ f.get 5 = a ∧ f.get 6 = .int .i64 ((if w < i then (L.take w).flatten.length else 0 : Nat) : Int) ∧ f.get 7 = .int .i64 (i : Nat))
    (fun z f t => (z = .ret ∧ f.n = 87 ∧ f.get 4 = .bool true) ∨ (z = .exit 0 ∧ ∃ (a : Value), Own t 1 a L.flatten.length (ofBytes L.flatten) ∧ L.flatten.length ≤ 12000 ∧ Stay s1.next s1 t ∧ f.n = 87 ∧ f.get 0 = x ∧ f.get 1 = .int .u8 m ∧ f.get 5 = a ∧ f.get 6 = .int .i64 ((if w < L.length then (L.take w).flatten.length else 0 : Nat) : Int)))
    ⟨0, _, rfl, by omega, fun j h h' => by omega, .nil, by simp, Fresh.nil _, Stay.refl _ _, by simp only [get_put, n_put, ↓reduceIte, Nat.reduceEqDiff, hn], by simp only [get_put, n_put, ↓reduceIte, Nat.reduceEqDiff, h0], by simp only [get_put, n_put, ↓reduceIte, Nat.reduceEqDiff, h1], by simp only [get_put, n_put, ↓reduceIte, Nat.reduceEqDiff], by simp only [get_put, n_put, ↓reduceIte, Nat.reduceEqDiff]; rw [if_neg (by omega)]; rfl, by simp only [get_put, n_put, ↓reduceIte, Nat.reduceEqDiff]; rfl⟩ ?_ ?_
  rotate_left
  · clear hn h0 h1 f
    rintro z f t (⟨rfl, hn, h4⟩ | ⟨rfl, a, ha, hfl, kt, hn, h0, h1, h5, h6⟩)
    · simp (config := { maxSteps := 1000000, implicitDefEqProofs := false }) (disch := omega) only [allW, allR, wfn_ret, wfn_normal, oneOf, evalAll, partsA, optA, Nat.reduceLT, Nat.reduceLeDiff, Nat.reduceEqDiff, Nat.reduceAdd, ↓reduceIte, hn, h4, Try.results7]
      rw [hQQ]
    have hxt := hx1.keeps kt
    have hpt := hp1.keeps kt
    simp (config := { maxSteps := 1000000, implicitDefEqProofs := false }) (disch := omega) only [allW, allR, oneOf, evalAll, partsA, optA, Nat.reduceLT, Nat.reduceLeDiff, Nat.reduceEqDiff, Nat.reduceAdd, ↓reduceIte, hn, h0, h1, h5, h6]
    refine (of_any t x vs L hxt ⟨hpt.len, hpt.sees⟩ (by omega) (by omega)).mono ?_
    rintro y t2 ⟨hy, -, -, k2⟩
    have hx2 := hxt.keeps k2
    have hp2 := hpt.keeps k2
    have ha2 := ha.keeps k2
    simp (config := { maxSteps := 1000000, implicitDefEqProofs := false }) (disch := omega) only [allW, allR, oneOf, evalAll, partsA, optA, Nat.reduceLT, Nat.reduceLeDiff, Nat.reduceEqDiff, Nat.reduceAdd, ↓reduceIte, hn, h0, h1, h5, h6]
    refine (same_any (lib := libI) rfl t2 y a L.flatten L.flatten hy ha2.sees (by omega) (by omega)).mono ?_
    rintro _ t3 ⟨rfl, rfl⟩
    by_cases cz : L.length = 0
    · have dz : ((L.length : Nat) : Int) = 0 := by omega
      simp (config := { maxSteps := 1000000, implicitDefEqProofs := false }) (disch := omega) only [allW, allR, wfn_ret, wfn_normal, oneOf, evalAll, partsA, optA, Nat.reduceLT, Nat.reduceLeDiff, Nat.reduceEqDiff, Nat.reduceAdd, ↓reduceIte, hn, h0, h1, h5, h6, decide_true, Bool.not_true, hx2.lenA Try.underlying44, eq_true dz, Try.results7]
      rw [hQQ]
    have dz : ¬ ((L.length : Nat) : Int) = 0 := by omega
    have hwl : w < L.length := by rw [hwm]; exact Nat.mod_lt _ (by omega)
    rw [if_pos hwl] at h6
    obtain ⟨b, hb⟩ : ∃ b, b = L[w] := ⟨_, rfl⟩
    obtain ⟨at_, hat⟩ : ∃ n, n = (L.take w).flatten.length := ⟨_, rfl⟩
    rw [← hat] at h6
    have hpa := part_at hwl
    rw [← hat, ← hb] at hpa
    have hpw := hp2.sees w hwl
    rw [← hb] at hpw
    have hii := hx2.indexAddr (P := Try.prog) (k := .i64) (x := (w : Int)) Try.underlying44 szSl (by omega) (by omega)
    rw [Int.toNat_natCast] at hii
    have hli := hx2.load1 (P := Try.prog) agSl hwl
    have hst := hpw.str (P := Try.prog) (dst := 9) Try.underlying22 Try.underlying9 Try.underlying5
    have hrem : ((m : Int)).tmod (L.length : Int) = (w : Int) := by rw [Int.tmod_eq_emod_of_nonneg (by omega), hwm]; rfl
    have hbl : b.length ≤ L.flatten.length := by omega
    simp (config := { maxSteps := 1000000, implicitDefEqProofs := false }) (disch := omega) only [allW, allR, oneOf, evalAll, partsA, optA, Nat.reduceLT, Nat.reduceLeDiff, Nat.reduceEqDiff, Nat.reduceAdd, ↓reduceIte, hn, h0, h1, h5, h6, decide_true, Bool.not_true, hx2.lenA Try.underlying44, eq_false dz, decide_false, conv_int Try.underlying5 Try.underlying3, wrapI, bin_rem, hrem, hii, hli, hst]
    refine (find_any (lib := libI) rfl rfl t3 a L.flatten b 0 ha2.sees (by omega) (by omega)).mono ?_
    rintro _ t4 ⟨rfl, k4⟩
    have ha4 := ha2.keeps k4
    have f1 := find_first hpa.1 hpa.2
    have d1 : findOf L.flatten b (0 : Int).toNat ≥ 0 := f1.1
    have d2 : findOf L.flatten b (0 : Int).toNat ≤ ((at_ : Nat) : Int) := f1.2
    simp (config := { maxSteps := 1000000, implicitDefEqProofs := false }) (disch := omega) only [allW, allR, oneOf, evalAll, partsA, optA, Nat.reduceLT, Nat.reduceLeDiff, Nat.reduceEqDiff, Nat.reduceAdd, ↓reduceIte, hn, h0, h1, h5, h6, eq_true d1, eq_true d2, decide_true]
    refine (last_any (lib := libI) rfl rfl rfl rfl rfl rfl t4 a L.flatten b ha4.sees (by omega) (by omega)).mono ?_
    rintro _ t5 ⟨rfl, k5⟩
    have ha5 := ha4.keeps k5
    have d3 : lastOf L.flatten b ≥ ((at_ : Nat) : Int) := last_at hpa.1 hpa.2
    simp (config := { maxSteps := 1000000, implicitDefEqProofs := false }) (disch := omega) only [allW, allR, oneOf, evalAll, partsA, optA, Nat.reduceLT, Nat.reduceLeDiff, Nat.reduceEqDiff, Nat.reduceAdd, ↓reduceIte, hn, h0, h1, h5, h6, eq_true d3, decide_true]
    refine (find_any (lib := libI) rfl rfl t5 a L.flatten b ((at_ : Nat) : Int) ha5.sees (by omega) (by omega)).mono ?_
    rintro _ t6 ⟨rfl, k6⟩
    have d4 : findOf L.flatten b at_ = ((at_ : Nat) : Int) := find_at hpa.1 hpa.2
    simp (config := { maxSteps := 1000000, implicitDefEqProofs := false }) (disch := omega) only [allW, allR, wfn_ret, wfn_normal, oneOf, evalAll, partsA, optA, Nat.reduceLT, Nat.reduceLeDiff, Nat.reduceEqDiff, Nat.reduceAdd, ↓reduceIte, hn, h0, h1, h5, h6, Int.toNat_natCast, d4, decide_true, Try.results7]
    rw [hQQ]
  clear hn h0 h1 f
  rintro Q hQ z f t ⟨i, a, rfl, hi, hP, ha, hfl, haF, kt, hn, h0, h1, h5, h6, h7⟩
  have hxt := hx1.keeps kt
  have hpt := hp1.keeps kt
  by_cases hlt : i < L.length
  rotate_left
  · obtain rfl : i = L.length := by omega
    have d1 : ¬ ((L.length : Nat) : Int) < ((L.length : Nat) : Int) := by omega
    rw [List.take_length] at ha hfl
    simp (config := { maxSteps := 1000000, implicitDefEqProofs := false }) (disch := omega) only [allW, allR, oneOf, evalAll, partsA, optA, Nat.reduceLT, Nat.reduceLeDiff, Nat.reduceEqDiff, Nat.reduceAdd, ↓reduceIte, hn, h0, h1, h5, h6, h7, hxt.lenA Try.underlying44, eq_false d1, decide_false]
    exact hQ _ _ _ (.inr ⟨rfl, a, ha, by omega, kt, by simp only [get_put, n_put, ↓reduceIte, Nat.reduceEqDiff, hn], by simp only [get_put, n_put, ↓reduceIte, Nat.reduceEqDiff, h0], by simp only [get_put, n_put, ↓reduceIte, Nat.reduceEqDiff, h1], by simp only [get_put, n_put, ↓reduceIte, Nat.reduceEqDiff, h5], by simp only [get_put, n_put, ↓reduceIte, Nat.reduceEqDiff, h6]⟩)
  have d1 : ((i : Nat) : Int) < ((L.length : Nat) : Int) := by omega
  have hii := hxt.indexAddr (P := Try.prog) (k := .i64) (x := (i : Int)) Try.underlying44 szSl (by omega) (by omega)
  rw [Int.toNat_natCast] at hii
  have hli := hxt.load1 (P := Try.prog) agSl hlt
  have hpi := hpt.sees i hlt
  obtain ⟨b, hb⟩ : ∃ b, b = L[i] := ⟨_, rfl⟩
  rw [← hb] at hpi
  by_cases c3 : ((b.length : Nat) : Int) > 200
  · simp (config := { maxSteps := 1000000, implicitDefEqProofs := false }) (disch := omega) only [allW, allR, oneOf, evalAll, partsA, optA, Nat.reduceLT, Nat.reduceLeDiff, Nat.reduceEqDiff, Nat.reduceAdd, ↓reduceIte, hn, h0, h1, h5, h6, h7, hxt.lenA Try.underlying44, eq_true d1, decide_true, hii, hli, hpi.lenA Try.underlying22, eq_true c3]
    exact hQ _ _ _ (.inl ⟨rfl, by simp only [get_put, n_put, ↓reduceIte, Nat.reduceEqDiff, hn], by simp only [get_put, n_put, ↓reduceIte, Nat.reduceEqDiff]⟩)
  have em : (if (1 : Int) > (L.length : Nat) then (1 : Int) else (L.length : Nat)) = (L.length : Nat) := if_neg (by omega)
  have d0 : ¬ ((L.length : Nat) : Int) = 0 := by omega
  have hrem : ((m : Int)).tmod (L.length : Int) = (w : Int) := by rw [Int.tmod_eq_emod_of_nonneg (by omega), hwm]; rfl
  have efl : (L.take (i + 1)).flatten = (L.take i).flatten ++ L[i] := flatten_take hlt
  rw [← hb] at efl
  have lfl : (L.take (i + 1)).flatten.length = (L.take i).flatten.length + b.length := by rw [efl, List.length_append]
  by_cases cw : i = w
  · have dw : ((i : Nat) : Int) = ((w : Nat) : Int) := by omega
    simp (config := { maxSteps := 1000000, implicitDefEqProofs := false }) (disch := omega) only [allW, allR, oneOf, evalAll, partsA, optA, Nat.reduceLT, Nat.reduceLeDiff, Nat.reduceEqDiff, Nat.reduceAdd, ↓reduceIte, hn, h0, h1, h5, h6, h7, hxt.lenA Try.underlying44, eq_true d1, decide_true, hii, hli, hpi.lenA Try.underlying22, eq_false c3, decide_false, conv_int Try.underlying5 Try.underlying3, wrapI, builtin_max, em, bin_rem, hrem, eq_true dw, ha.sees.lenA Try.underlying22, ha.self]
    refine wstep_append Try.underlying22 Try.underlying22 (.inl ⟨_, rfl⟩) szU8 byU8 zU8 rfl ha hpi.src (by rw [ofBytes_length, Nat.mul_one]) (by decide) (ofBytes_ok _) (by omega) (by omega) haF kt.next ?_
    intro a2 t2 ha2 haF2 k2 _ _
    rw [← ofBytes_append, ← efl, ← lfl] at ha2
    simp (config := { maxSteps := 1000000, implicitDefEqProofs := false }) (disch := omega) only [allW, allR, oneOf, evalAll, partsA, optA, Nat.reduceLT, Nat.reduceLeDiff, Nat.reduceEqDiff, Nat.reduceAdd, ↓reduceIte, hn, h0, h1, h5, h6, h7, wrapI]
    refine wround_next (L.length - (i + 1)) (by omega) ⟨i + 1, a2, rfl, by omega, fun j h h' => ?_, ha2, by omega, haF2, kt.trans k2, by simp only [get_put, n_put, ↓reduceIte, Nat.reduceEqDiff, hn], by simp only [get_put, n_put, ↓reduceIte, Nat.reduceEqDiff, h0], by simp only [get_put, n_put, ↓reduceIte, Nat.reduceEqDiff, h1], by simp only [get_put, n_put, ↓reduceIte, Nat.reduceEqDiff], ?_, by simp only [get_put, n_put, ↓reduceIte, Nat.reduceEqDiff]; rfl⟩
    · by_cases e : j = i
      · subst e; rw [← hb]; omega
      · exact hP j h (by omega)
    · simp only [get_put, n_put, ↓reduceIte, Nat.reduceEqDiff, h6]
      by_cases c : w < i
      · rw [if_pos (show w < i + 1 by omega)]; first | rw [if_pos c] | (exfalso; omega)
      · by_cases c2 : w < i + 1
        · rw [if_pos c2]; first | (exfalso; omega) | (have e : w = i := (by omega); subst e; rfl)
        · rw [if_neg c2]; first | rw [if_neg c] | (exfalso; omega)
  · have dw : ¬ ((i : Nat) : Int) = ((w : Nat) : Int) := by omega
    simp (config := { maxSteps := 1000000, implicitDefEqProofs := false }) (disch := omega) only [allW, allR, oneOf, evalAll, partsA, optA, Nat.reduceLT, Nat.reduceLeDiff, Nat.reduceEqDiff, Nat.reduceAdd, ↓reduceIte, hn, h0, h1, h5, h6, h7, hxt.lenA Try.underlying44, eq_true d1, decide_true, hii, hli, hpi.lenA Try.underlying22, eq_false c3, decide_false, conv_int Try.underlying5 Try.underlying3, wrapI, builtin_max, em, bin_rem, hrem, eq_false dw, ha.self]
    refine wstep_append Try.underlying22 Try.underlying22 (.inl ⟨_, rfl⟩) szU8 byU8 zU8 rfl ha hpi.src (by rw [ofBytes_length, Nat.mul_one]) (by decide) (ofBytes_ok _) (by omega) (by omega) haF kt.next ?_
    intro a2 t2 ha2 haF2 k2 _ _
    rw [← ofBytes_append, ← efl, ← lfl] at ha2
    simp (config := { maxSteps := 1000000, implicitDefEqProofs := false }) (disch := omega) only [allW, allR, oneOf, evalAll, partsA, optA, Nat.reduceLT, Nat.reduceLeDiff, Nat.reduceEqDiff, Nat.reduceAdd, ↓reduceIte, hn, h0, h1, h5, h6, h7, wrapI]
    refine wround_next (L.length - (i + 1)) (by omega) ⟨i + 1, a2, rfl, by omega, fun j h h' => ?_, ha2, by omega, haF2, kt.trans k2, by simp only [get_put, n_put, ↓reduceIte, Nat.reduceEqDiff, hn], by simp only [get_put, n_put, ↓reduceIte, Nat.reduceEqDiff, h0], by simp only [get_put, n_put, ↓reduceIte, Nat.reduceEqDiff, h1], by simp only [get_put, n_put, ↓reduceIte, Nat.reduceEqDiff], ?_, by simp only [get_put, n_put, ↓reduceIte, Nat.reduceEqDiff]; rfl⟩
    · by_cases e : j = i
      · subst e; rw [← hb]; omega
      · exact hP j h (by omega)
    · simp only [get_put, n_put, ↓reduceIte, Nat.reduceEqDiff, h6]
      by_cases c : w < i
      · rw [if_pos (show w < i + 1 by omega)]; first | rw [if_pos c] | (exfalso; omega)
      · by_cases c2 : w < i + 1
        · rw [if_pos c2]; first | (exfalso; omega) | (have e : w = i := (by omega); subst e; rfl)
        · rw [if_neg c2]; first | rw [if_neg c] | (exfalso; omega)

theorem own : ownKnob Try.prog.godebug = none := by kernel_rfl
theorem sound : progOk Try.prog libI = true := by kernel_rfl
theorem laid : laidOutB Try.prog = true := by kernel_rfl
theorem read : ∀ t ∈ Try.f7.params.toList, Try.prog.readableRec t = true ∧ t < Try.prog.types.size := by
  have : (Try.f7.params.toList.all fun t => Try.prog.readableRec t && decide (t < Try.prog.types.size)) = true := by kernel_rfl
  intro t ht
  simpa using List.all_eq_true.mp this t ht
set_option maxRecDepth 100000 in
theorem lifted (os : Os) (started : os.Started) (H : Type) (enc : TypeId × Value → H) :
    ReturnsInHanded {} Try.checked os 7 .any (Rows.cursorPartsSpec.pre6 enc Try.prog Try.f7 Rows.cursorPartsRow.domain false) (Rows.cursorPartsSpec.post enc Try.prog Try.f7 false true false false) := by
  refine returnsInHanded_of_change_shaped (C := Try.checked) own started (by kernel_rfl) Try.func7
    (ChangeSpec.witness6 (enc := enc) (C := Try.checked) false ⟨#[], #[.slice none 0 0, .int .u8 0], []⟩ 8 (by kernel_rfl) (by kernel_rfl) (by kernel_rfl) (by kernel_rfl)) ?_
  intro W base args ds gs before hval hW hcnd hsz hsh _
  obtain ⟨p, q, hA, _, _, _, _⟩ := id hW
  have hA : DataW.TrodAll enc Try.prog W 0 (fun _ => true) true Try.f7.params.toList args.toList ds p := hA
  rw [Try.params7] at hA
  obtain ⟨v0, v1, d0, d1, p0, p1, rfl, rfl, rfl, h0, h1⟩ := trodAll_two hA
  have hv0 : Value.okWide Try.prog W .any base 44 v0 := hval 0 _ _ (by rw [Try.params7]; rfl) rfl
  have hw0 : Wt Try.prog 44 d0 := fun n hn => by simpa using List.all_eq_true.1 hsz n (DataW.weights_mem_each (j := 0) (t := 44) (d := d0) (by rw [Try.params7]; rfl) rfl n hn)
  have hv1 : Value.okWide Try.prog W .any base 5 v1 := hval 1 _ _ (by rw [Try.params7]; rfl) rfl
  obtain ⟨S0, x0, y0, L0, hg0, hr0, hs0, hp0, hk0⟩ := arg_bytess (Begun.start W) h0 hw0 hv0
  obtain ⟨n1, rfl, _, _, hz1⟩ := open_int Try.underlying5 hv1 h1
  have hcalls := Runs.callsP staysI libFrI libOkI sound rfl (preI hsh) hg0.begun (law S0.s x0 y0 L0 hs0 hp0 hk0 n1 hz1) (args' := #[v0, .int .u8 n1]) (VRL.cons hr0 (VRL.cons (.int _ _) VRL.nil))
  refine hcalls.mono fun e W' ⟨he, hb⟩ => ?_
  subst he
  exact law_post laid read rfl Try.underlying4 rfl (fun L hL => by match L, hL with | [a0, a1], _ => rfl) hW hb

theorem over : Rows.cursorPartsRow.holds Try.pinned (OpenSpec.ofChange Rows.cursorPartsSpec) :=
  OpenClaim.holds_of_wide 7 Try.f7 rfl rfl rfl rfl rfl rfl rfl ⟨rfl, rfl, rfl, rfl, rfl⟩ rfl rfl rfl rfl rfl (by kernel_rfl) Try.func7 (by kernel_rfl)
    (of_decide_eq_true (by kernel_rfl)) (by unfold Func.isWrapper; first | (rw [if_pos (by decide +kernel)]; kernel_rfl) | (rw [if_neg (by decide +kernel)]; exact ⟨rfl, rfl⟩))
    (fun os started H enc _ => lifted os started H enc)

/-- THE STATEMENT. -/
theorem proved : Rows.CursorPartsSaid := over
#print axioms proved
end Go.Proofs.Ytndlajhkbepafaa.cursorParts
