/-
  The statement InflateJoins: blocks as they are, one behind the other, and more behind them, are read as they were, and to where they end: the law returns true.
  Conditions: none.
-/
import Derived.Test.YtnclklboogdoiaaRows
import Derived.Test.YtnclklboogdoiaaStart
import Derived.Test.YtnclklboogdoiaaNfX
import Derived.Test.YtnclklboogdoiaaArgB
set_option linter.unusedSimpArgs false
set_option linter.unusedVariables false
set_option maxRecDepth 100000
namespace Go.Cl.Jn
open Go.Cl.Sto
def jq (L : List (List UInt8)) (i : Nat) : List UInt8 := if i = L.length then jn L else jpre (L.take i)
theorem jq_next {L : List (List UInt8)} {i : Nat} (h : i < L.length) : jq L (i + 1) = jq L i ++ (hdr (L[i]).length (if i + 1 = L.length then 1 else 0) ++ L[i]) := by
  unfold jq
  rw [if_neg (show ¬ i = L.length by omega)]
  by_cases c : i + 1 = L.length
  · rw [if_pos c, if_pos c]; exact jn_end c
  · rw [if_neg c, if_neg c, take_snocL h, jpre_snoc]
theorem flatJ_next {L : List (List UInt8)} {i : Nat} (h : i < L.length) : (L.take (i + 1)).flatten = (L.take i).flatten ++ L[i] := by
  rw [take_snocL h, List.flatten_append]
  simp only [List.flatten_cons, List.flatten_nil, List.append_nil]
end Go.Cl.Jn
namespace Go.Proofs.Ytnclklboogdoiaa.inflateJoins
open Go.ChangeShapes Go.WideShapes Go.ChangeAt Go.RowKit Go.Cl Go.Cl.Sto Go.Cl.Rw Go.Cl.Fx Go.Cl.Nf Go.Cl.Jn
set_option maxRecDepth 100000 in
set_option maxHeartbeats 16000000 in
theorem law (s : ASt) (x : Value) (vs : List Value) (L : List (List UInt8)) (hx : Sees s 1 x L.length vs) (hp : PiecesA s vs L) (hk : L.length ≤ 140737488351232) (y : Value) (b : List UInt8) (hy : Sees s 1 y b.length (ofBytes b)) (hkb : b.length ≤ 140737488351232) :
    Runs Try.prog libN 5 [x, y] s fun v _ => v = .bool true := by
  obtain ⟨QQ, hQQ⟩ : ∃ QQ : Value → ASt → Prop, QQ = fun v _ => v = .bool true := ⟨_, rfl⟩
  rw [← hQQ]
  refine Runs.enter 98 Try.func5 rfl rfl rfl rfl ?_
  intro f hn hf
  have h0 : f.get 0 = x := hf 0
  have h1 : f.get 1 = y := hf 1
  clear hf
  simp (config := { maxSteps := 1000000, implicitDefEqProofs := false }) (disch := omega) only [allW, allR, oneOf, evalAll, partsA, optA, Nat.reduceLT, Nat.reduceLeDiff, Nat.reduceEqDiff, Nat.reduceAdd, ↓reduceIte, hn, h0, h1]
  refine (awake_any s).mono ?_
  rintro _ s1 ⟨rfl, k1⟩
  have hx1 := hx.keeps k1
  have hy1 := hy.keeps k1
  have hp1 := hp.keeps k1
  by_cases c1 : (L.length : Int) > 20
  · simp (config := { maxSteps := 1000000, implicitDefEqProofs := false }) (disch := omega) only [allW, allR, wfn_ret, wfn_normal, oneOf, evalAll, partsA, optA, Nat.reduceLT, Nat.reduceLeDiff, Nat.reduceEqDiff, Nat.reduceAdd, ↓reduceIte, undef, hn, h0, h1, Bool.not_true, hx1.lenA Try.underlying44, eq_true c1, decide_true, Try.results5]
    rw [hQQ]
  by_cases c2 : L.length = 0
  · have d2 : ((L.length : Nat) : Int) = 0 := by omega
    simp (config := { maxSteps := 1000000, implicitDefEqProofs := false }) (disch := omega) only [allW, allR, wfn_ret, wfn_normal, oneOf, evalAll, partsA, optA, Nat.reduceLT, Nat.reduceLeDiff, Nat.reduceEqDiff, Nat.reduceAdd, ↓reduceIte, undef, hn, h0, h1, Bool.not_true, hx1.lenA Try.underlying44, eq_false c1, eq_true d2, decide_true, decide_false, Try.results5]
    rw [hQQ]
  have d2 : ¬ ((L.length : Nat) : Int) = 0 := by omega
  by_cases c3 : (b.length : Int) > 50
  · simp (config := { maxSteps := 1000000, implicitDefEqProofs := false }) (disch := omega) only [allW, allR, wfn_ret, wfn_normal, oneOf, evalAll, partsA, optA, Nat.reduceLT, Nat.reduceLeDiff, Nat.reduceEqDiff, Nat.reduceAdd, ↓reduceIte, undef, hn, h0, h1, Bool.not_true, hx1.lenA Try.underlying44, hy1.lenA Try.underlying22, eq_false c1, eq_false d2, eq_true c3, decide_true, decide_false, Try.results5]
    rw [hQQ]
  have hL0 : L ≠ [] := fun e => c2 (by rw [e]; rfl)
  simp (config := { maxSteps := 1000000, implicitDefEqProofs := false }) (disch := omega) only [allW, allR, oneOf, evalAll, partsA, optA, Nat.reduceLT, Nat.reduceLeDiff, Nat.reduceEqDiff, Nat.reduceAdd, ↓reduceIte, undef, hn, h0, h1, Bool.not_true, hx1.lenA Try.underlying44, hy1.lenA Try.underlying22, eq_false c1, eq_false d2, eq_false c3, decide_false]
  refine Comes.loopOut (fun z f t => ∃ (i : Nat) (d a : Value), z = L.length - i ∧ i ≤ L.length ∧ (∀ j (h : j < L.length), j < i → L[j].length ≤ 300) ∧ Own t 1 d (jq L i).length (ofBytes (jq L i)) ∧ Own t 1 a (L.take i).flatten.length (ofBytes (L.take i).flatten) ∧ (jq L i).length ≤ 305 * i ∧ (L.take i).flatten.length ≤ 300 * i ∧ Fresh s1.next d ∧ Fresh s1.next a ∧ (∀ k, idOf a = some k → idOf d ≠ some k) ∧ Stay s1.next s1 t ∧ f.n = 98 ∧ f.get 0 = x ∧ f.get 1 = y ∧ f.get 5 = d ∧ f.get 6 = a ∧ f.get 7 = .int .i64 (i : Nat))
    (fun z f t => (z = .ret ∧ f.n = 98 ∧ f.get 4 = .bool true) ∨ (z = .exit 0 ∧ ∃ (d a : Value), (∀ j (h : j < L.length), L[j].length ≤ 300) ∧ Own t 1 d (jn L).length (ofBytes (jn L)) ∧ Own t 1 a L.flatten.length (ofBytes L.flatten) ∧ (jn L).length ≤ 6100 ∧ L.flatten.length ≤ 6000 ∧ Stay s1.next s1 t ∧ f.n = 98 ∧ f.get 0 = x ∧ f.get 1 = y ∧ f.get 5 = d ∧ f.get 6 = a))
    ⟨0, _, _, rfl, by omega, fun j h h' => by omega, by unfold jq; rw [if_neg (by omega)]; exact .nil, .nil, by unfold jq; rw [if_neg (by omega)]; exact Nat.le_refl _, by simp, Fresh.nil _, Fresh.nil _, (fun k e => by cases e), Stay.refl _ _, by simp only [get_put, n_put, ↓reduceIte, Nat.reduceEqDiff, hn], by simp only [get_put, n_put, ↓reduceIte, Nat.reduceEqDiff, h0], by simp only [get_put, n_put, ↓reduceIte, Nat.reduceEqDiff, h1], by simp only [get_put, n_put, ↓reduceIte, Nat.reduceEqDiff], by simp only [get_put, n_put, ↓reduceIte, Nat.reduceEqDiff], by simp only [get_put, n_put, ↓reduceIte, Nat.reduceEqDiff]; rfl⟩ ?_ ?_
  rotate_left
  · clear hn h0 h1 f
    rintro z f t (⟨rfl, hn, h4⟩ | ⟨rfl, d, a, hP, hd, ha, hjl, hfl, kt, hn, h0, h1, h5, h6⟩)
    · simp (config := { maxSteps := 1000000, implicitDefEqProofs := false }) (disch := omega) only [allW, allR, wfn_ret, wfn_normal, oneOf, evalAll, partsA, optA, Nat.reduceLT, Nat.reduceLeDiff, Nat.reduceEqDiff, Nat.reduceAdd, ↓reduceIte, undef, hn, h4, Try.results5]
      rw [hQQ]
    have hyt := hy1.keeps kt
    simp (config := { maxSteps := 1000000, implicitDefEqProofs := false }) (disch := omega) only [allW, allR, oneOf, evalAll, partsA, optA, Nat.reduceLT, Nat.reduceLeDiff, Nat.reduceEqDiff, Nat.reduceAdd, ↓reduceIte, undef, hn, h0, h1, h5, h6]
    refine (copy_any (lib := []) rfl t d (jn L) hd.sees (by omega)).mono ?_
    rintro C t1 ⟨hC, hCF, k2⟩
    have hyt1 := hyt.keeps k2
    have hd1 := hd.keeps k2
    have ha1 := ha.keeps k2
    simp (config := { maxSteps := 1000000, implicitDefEqProofs := false }) (disch := omega) only [allW, allR, oneOf, evalAll, partsA, optA, Nat.reduceLT, Nat.reduceLeDiff, Nat.reduceEqDiff, Nat.reduceAdd, ↓reduceIte, undef, hn, h0, h1, h5, h6]
    refine wstep_append Try.underlying22 Try.underlying22 (.inl ⟨_, rfl⟩) szU8 byU8 zU8 rfl hC hyt1.src (by simp [ofBytes_length]) (by decide) (ofBytes_ok _) (by omega) (by omega) hCF k2.next ?_
    intro C' t2 hC' _ k3 _ _
    rw [← ofBytes_append, ← List.length_append] at hC'
    have k23 := k2.trans k3
    have hd2 := hd.keeps k23
    have ha2 := ha.keeps k23
    obtain ⟨N, hN⟩ : ∃ N, N = 8 * (jn L).length + 8 * b.length + L.length + 2 := ⟨_, rfl⟩
    simp (config := { maxSteps := 1000000, implicitDefEqProofs := false }) (disch := omega) only [allW, allR, oneOf, evalAll, partsA, optA, Nat.reduceLT, Nat.reduceLeDiff, Nat.reduceEqDiff, Nat.reduceAdd, ↓reduceIte, undef, hn, h0, h1, h5, h6, ha2.sees.lenA Try.underlying22]
    have r2 := blocksP_any noLx t2 C' (jn L ++ b) N hC'.sees (by rw [List.length_append]; omega) (L.flatten.length : Nat) (by omega) (by rw [List.length_append]; omega)
    rw [Int.toNat_natCast, jn_read N b hL0 (fun w hw => by obtain ⟨j, hj, rfl⟩ := List.mem_iff_getElem.1 hw; have := hP j hj; omega) (by omega) (Nat.le_refl _)] at r2
    refine r2.mono ?_
    rintro _ t3 ⟨o2, rfl, hO2, -, k8⟩
    rw [show (8 * (jn L).length + 7) / 8 = (jn L).length by omega]
    have hd3 := hd2.keeps k8
    have ha3 := ha2.keeps k8
    simp (config := { maxSteps := 1000000, implicitDefEqProofs := false }) (disch := omega) only [allW, allR, oneOf, evalAll, partsA, optA, Nat.reduceLT, Nat.reduceLeDiff, Nat.reduceEqDiff, Nat.reduceAdd, ↓reduceIte, undef, hn, h0, h1, h5, h6, ext0F, ext1F, ext2F, decide_true, hd3.sees.lenA Try.underlying22]
    refine (same_any (lib := []) rfl t3 o2 a L.flatten L.flatten hO2.sees ha3.sees (by omega) (by omega)).mono ?_
    rintro _ t4 ⟨rfl, rfl⟩
    simp (config := { maxSteps := 1000000, implicitDefEqProofs := false }) (disch := omega) only [allW, allR, wfn_ret, wfn_normal, oneOf, evalAll, partsA, optA, Nat.reduceLT, Nat.reduceLeDiff, Nat.reduceEqDiff, Nat.reduceAdd, ↓reduceIte, undef, hn, h0, h1, decide_true, Try.results5]
    rw [hQQ]
  clear hn h0 h1 f
  rintro Q hQ z f t ⟨i, d, a, rfl, hi, hP, hd, ha, hjl, hfl, hdF, haF, hne, kt, hn, h0, h1, h5, h6, h7⟩
  have hxt := hx1.keeps kt
  have hpt := hp1.keeps kt
  have nt := kt.next
  by_cases hlt : i < L.length
  rotate_left
  · obtain rfl : i = L.length := by omega
    have d1 : ¬ ((L.length : Nat) : Int) < ((L.length : Nat) : Int) := by omega
    simp (config := { maxSteps := 1000000, implicitDefEqProofs := false }) (disch := omega) only [allW, allR, oneOf, evalAll, partsA, optA, Nat.reduceLT, Nat.reduceLeDiff, Nat.reduceEqDiff, Nat.reduceAdd, ↓reduceIte, hn, h0, h1, h5, h6, h7, hxt.lenA Try.underlying44, eq_false d1]
    rw [show jq L L.length = jn L from if_pos rfl] at hd hjl
    rw [List.take_length] at ha hfl
    exact hQ _ _ _ (.inr ⟨rfl, d, a, fun j h => hP j h h, hd, ha, by omega, by omega, kt, by simp only [get_put, n_put, ↓reduceIte, Nat.reduceEqDiff, hn], by simp only [get_put, n_put, ↓reduceIte, Nat.reduceEqDiff, h0], by simp only [get_put, n_put, ↓reduceIte, Nat.reduceEqDiff, h1], by simp only [get_put, n_put, ↓reduceIte, Nat.reduceEqDiff, h5], by simp only [get_put, n_put, ↓reduceIte, Nat.reduceEqDiff, h6]⟩)
  have d1 : ((i : Nat) : Int) < ((L.length : Nat) : Int) := by omega
  have hii := hxt.indexAddr (P := Try.prog) (k := .i64) (x := (i : Int)) Try.underlying44 szSl (by omega) (by omega)
  rw [Int.toNat_natCast] at hii
  have hli := hxt.load1 (P := Try.prog) agSl hlt
  have hpi := hpt.sees i hlt
  obtain ⟨w, hw⟩ : ∃ w, w = L[i] := ⟨_, rfl⟩
  rw [← hw] at hpi
  by_cases c3 : ((w.length : Nat) : Int) > 300
  · simp (config := { maxSteps := 1000000, implicitDefEqProofs := false }) (disch := omega) only [allW, allR, oneOf, evalAll, partsA, optA, Nat.reduceLT, Nat.reduceLeDiff, Nat.reduceEqDiff, Nat.reduceAdd, ↓reduceIte, hn, h0, h1, h5, h6, h7, hxt.lenA Try.underlying44, eq_true d1, hii, hli, hpi.lenA Try.underlying22, eq_true c3, decide_true]
    exact hQ _ _ _ (.inl ⟨rfl, by simp only [get_put, n_put, ↓reduceIte, Nat.reduceEqDiff, hn], by simp only [get_put, n_put, ↓reduceIte, Nat.reduceEqDiff]⟩)
  obtain ⟨last, hlast⟩ : ∃ n : Nat, n = if i + 1 = L.length then 1 else 0 := ⟨_, rfl⟩
  simp (config := { maxSteps := 1000000, implicitDefEqProofs := false }) (disch := omega) only [allW, allR, oneOf, evalAll, partsA, optA, Nat.reduceLT, Nat.reduceLeDiff, Nat.reduceEqDiff, Nat.reduceAdd, ↓reduceIte, hn, h0, h1, h5, h6, h7, hxt.lenA Try.underlying44, eq_true d1, hii, hli, hpi.lenA Try.underlying22, eq_false c3, decide_false, wrapI]
  refine wif_cutN (fun f' t' => t' = t ∧ f'.n = 98 ∧ f'.get 0 = x ∧ f'.get 1 = y ∧ f'.get 5 = d ∧ f'.get 6 = a ∧ f'.get 7 = .int .i64 (i : Nat) ∧ f'.get 8 = .int .i64 (w.length : Nat) ∧ f'.get 9 = .int .u8 (last : Nat)) ?_ ?_
  · intro Q' hQ'
    by_cases cl : i + 1 = L.length
    · have dl : ((i : Nat) : Int) = ((L.length : Nat) : Int) - 1 := by omega
      rw [if_pos cl] at hlast
      simp (config := { maxSteps := 1000000, implicitDefEqProofs := false }) (disch := omega) only [allW, allR, oneOf, evalAll, partsA, optA, Nat.reduceLT, Nat.reduceLeDiff, Nat.reduceEqDiff, Nat.reduceAdd, ↓reduceIte, hn, h0, eq_true dl, decide_true]
      exact hQ' _ _ ⟨rfl, by simp only [get_put, n_put, ↓reduceIte, Nat.reduceEqDiff, hn], by simp only [get_put, n_put, ↓reduceIte, Nat.reduceEqDiff, h0], by simp only [get_put, n_put, ↓reduceIte, Nat.reduceEqDiff, h1], by simp only [get_put, n_put, ↓reduceIte, Nat.reduceEqDiff, h5], by simp only [get_put, n_put, ↓reduceIte, Nat.reduceEqDiff, h6], by simp only [get_put, n_put, ↓reduceIte, Nat.reduceEqDiff, h7], by simp only [get_put, n_put, ↓reduceIte, Nat.reduceEqDiff], by simp only [get_put, n_put, ↓reduceIte, Nat.reduceEqDiff]; rw [hlast]; rfl⟩
    · have dl : ¬ ((i : Nat) : Int) = ((L.length : Nat) : Int) - 1 := by omega
      rw [if_neg cl] at hlast
      simp (config := { maxSteps := 1000000, implicitDefEqProofs := false }) (disch := omega) only [allW, allR, oneOf, evalAll, partsA, optA, Nat.reduceLT, Nat.reduceLeDiff, Nat.reduceEqDiff, Nat.reduceAdd, ↓reduceIte, hn, h0, eq_false dl, decide_false]
      exact hQ' _ _ ⟨rfl, by simp only [get_put, n_put, ↓reduceIte, Nat.reduceEqDiff, hn], by simp only [get_put, n_put, ↓reduceIte, Nat.reduceEqDiff, h0], by simp only [get_put, n_put, ↓reduceIte, Nat.reduceEqDiff, h1], by simp only [get_put, n_put, ↓reduceIte, Nat.reduceEqDiff, h5], by simp only [get_put, n_put, ↓reduceIte, Nat.reduceEqDiff, h6], by simp only [get_put, n_put, ↓reduceIte, Nat.reduceEqDiff, h7], by simp only [get_put, n_put, ↓reduceIte, Nat.reduceEqDiff], by simp only [get_put, n_put, ↓reduceIte, Nat.reduceEqDiff]; rw [hlast]; rfl⟩
  clear hn h0 h1 h5 h6 h7 f
  rintro f t' ⟨rfl, hn, h0, h1, h5, h6, h7, h8, h9⟩
  have hn64 : w.length < 4611686018427387904 := by omega
  have hl2 : last < 2 := by rw [hlast]; split <;> decide
  have eb : ((last : Nat) : Int) = ((UInt8.ofNat last).toNat : Int) := by
    match last, hl2 with
    | 0, _ => rfl
    | 1, _ => rfl
  simp (config := { maxSteps := 1000000, implicitDefEqProofs := false }) (disch := omega) only [allW, allR, oneOf, evalAll, partsA, optA, Nat.reduceLT, Nat.reduceLeDiff, Nat.reduceEqDiff, Nat.reduceAdd, ↓reduceIte, hn, h0, h1, h5, h6, h7, h8, h9, conv_int Try.underlying3 Try.underlying5, b0, shr8, fdiv256, b1, notI, b2, b3, build5 Try.underlying22 szU8 zU8]
  refine wstep_append_lit Try.underlying22 szU8 byU8 zU8 rfl hd (by simp only [get_put, n_put, ↓reduceIte, Nat.reduceEqDiff, h5]) (by decide) (by simp only [get_put, n_put, ↓reduceIte, Nat.reduceEqDiff, hn]; decide) (by simp only [get_put, n_put, ↓reduceIte, Nat.reduceEqDiff, hn]; decide) (by rfl) (by decide) rfl (by omega) (by omega) hdF nt ?_
  intro bs d2 t2 hd2 hdF2 k2 to2 hid2
  have hxt2 := hx1.keeps (kt.trans k2)
  have hpt2 := hp1.keeps (kt.trans k2)
  have hli2 := hxt2.load1 (P := Try.prog) agSl hlt
  have hpi2 := hpt2.sees i hlt
  rw [← hw] at hpi2
  have ha2 := ha.turns to2 (fun k hk => hne k hk)
  have hh : [Value.int .u8 ((last : Nat) : Int), Value.int .u8 (((UInt8.ofNat w.length).toNat : Nat) : Int), Value.int .u8 (((UInt8.ofNat (w.length / 256)).toNat : Nat) : Int), Value.int .u8 (((UInt8.ofNat (255 - w.length % 256)).toNat : Nat) : Int), Value.int .u8 (((UInt8.ofNat (255 - w.length / 256 % 256)).toNat : Nat) : Int)] = ofBytes (hdr w.length last) := by rw [eb]; rfl
  rw [hh, ← ofBytes_append] at hd2
  have hne2 : ∀ k, idOf a = some k → idOf d2 ≠ some k := fun k hk e => by
    rcases hid2 with h | ⟨j, hj, hlj⟩
    · exact hne k hk (by rw [← h]; exact e)
    · have := ha.idlt k hk; rw [hj] at e; injection e with e; omega
  simp (config := { maxSteps := 1000000, implicitDefEqProofs := false }) (disch := omega) only [allW, allR, oneOf, evalAll, partsA, optA, Nat.reduceLT, Nat.reduceLeDiff, Nat.reduceEqDiff, Nat.reduceAdd, ↓reduceIte, hn, h0, h1, h5, h6, h7, h8, h9, hii, hli2, hd2.self]
  refine wstep_append Try.underlying22 Try.underlying22 (.inl ⟨_, rfl⟩) szU8 byU8 zU8 rfl hd2 hpi2.src (by rw [ofBytes_length, Nat.mul_one]) (by decide) (ofBytes_ok _) (by omega) (by omega) hdF2 (by have := k2.next; omega) ?_
  intro d3 t3 hd3 hdF3 k3 to3 hid3
  have kt3 := (kt.trans k2).trans k3
  have hxt3 := hx1.keeps kt3
  have hpt3 := hp1.keeps kt3
  have hli3 := hxt3.load1 (P := Try.prog) agSl hlt
  have hpi3 := hpt3.sees i hlt
  rw [← hw] at hpi3
  have ha3 := ha2.turns to3 (fun k hk => hne2 k hk)
  have hne3 : ∀ k, idOf a = some k → idOf d3 ≠ some k := fun k hk e => by
    rcases hid3 with h | ⟨j, hj, hlj⟩
    · exact hne2 k hk (by rw [← h]; exact e)
    · have := ha2.idlt k hk; rw [hj] at e; injection e with e; omega
  rw [← ofBytes_append] at hd3
  simp (config := { maxSteps := 1000000, implicitDefEqProofs := false }) (disch := omega) only [allW, allR, oneOf, evalAll, partsA, optA, Nat.reduceLT, Nat.reduceLeDiff, Nat.reduceEqDiff, Nat.reduceAdd, ↓reduceIte, hn, h0, h1, h5, h6, h7, h8, h9, hii, hli3, ha3.self]
  refine wstep_append Try.underlying22 Try.underlying22 (.inl ⟨_, rfl⟩) szU8 byU8 zU8 rfl ha3 hpi3.src (by rw [ofBytes_length, Nat.mul_one]) (by decide) (ofBytes_ok _) (by omega) (by omega) haF kt3.next ?_
  intro a4 t4 ha4 haF4 k4 to4 hid4
  have hd4 := hd3.turns to4 (fun k hk e => hne3 k e hk)
  rw [← ofBytes_append] at ha4
  have hne4 : ∀ k, idOf a4 = some k → idOf d3 ≠ some k := fun k hk e => by
    rcases hid4 with h | ⟨j, hj, hlj⟩
    · exact hne3 k (by rw [← h]; exact hk) e
    · have := hd3.idlt k e; rw [hj] at hk; injection hk with hk; omega
  have ejq := jq_next hlt
  have efl := flatJ_next hlt
  rw [← hw, ← hlast, ← List.append_assoc] at ejq
  rw [← hw] at efl
  have ljq : (jq L (i + 1)).length = (jq L i).length + 5 + w.length := by rw [ejq, List.length_append, List.length_append, hdr_length]
  have lfl : (L.take (i + 1)).flatten.length = (L.take i).flatten.length + w.length := by rw [efl, List.length_append]
  rw [← ejq, ← ljq] at hd4
  rw [← efl, ← lfl] at ha4
  simp (config := { maxSteps := 1000000, implicitDefEqProofs := false }) (disch := omega) only [allW, allR, oneOf, evalAll, partsA, optA, Nat.reduceLT, Nat.reduceLeDiff, Nat.reduceEqDiff, Nat.reduceAdd, ↓reduceIte, hn, h0, h1, h5, h6, h7, h8, h9, wrapI]
  refine wround_next (L.length - (i + 1)) (by omega) ⟨i + 1, d3, a4, rfl, by omega, fun j h h' => ?_, hd4, ha4, by omega, by omega, hdF3, haF4, hne4, kt3.trans k4, by simp only [get_put, n_put, ↓reduceIte, Nat.reduceEqDiff, hn], by simp only [get_put, n_put, ↓reduceIte, Nat.reduceEqDiff, h0], by simp only [get_put, n_put, ↓reduceIte, Nat.reduceEqDiff, h1], by simp only [get_put, n_put, ↓reduceIte, Nat.reduceEqDiff], by simp only [get_put, n_put, ↓reduceIte, Nat.reduceEqDiff], by simp only [get_put, n_put, ↓reduceIte, Nat.reduceEqDiff]; rfl⟩
  by_cases e : j = i
  · subst e; rw [← hw]; omega
  · exact hP j h (by omega)
theorem own : ownKnob Try.prog.godebug = none := by kernel_rfl
theorem sound : progOk Try.prog libN = true := by kernel_rfl
theorem laid : laidOutB Try.prog = true := by kernel_rfl
theorem read : ∀ t ∈ Try.f5.params.toList, Try.prog.readableRec t = true ∧ t < Try.prog.types.size := by
  have : (Try.f5.params.toList.all fun t => Try.prog.readableRec t && decide (t < Try.prog.types.size)) = true := by kernel_rfl
  intro t ht
  simpa using List.all_eq_true.mp this t ht
set_option maxRecDepth 100000 in
theorem lifted (os : Os) (started : os.Started) (H : Type) (enc : TypeId × Value → H) :
    ReturnsInHanded {} Try.checked os 5 .any (Rows.inflateJoinsSpec.pre6 enc Try.prog Try.f5 Rows.inflateJoinsRow.domain false) (Rows.inflateJoinsSpec.post enc Try.prog Try.f5 false true false false) := by
  refine returnsInHanded_of_change_sized (C := Try.checked) own started (by kernel_rfl) Try.func5
    (ChangeSpec.witness6 (enc := enc) (C := Try.checked) false ⟨#[], #[.slice none 0 0, .slice none 0 0], []⟩ 8 (by kernel_rfl) (by kernel_rfl) (by kernel_rfl) (by kernel_rfl)) ?_
  intro W base args ds gs before hval hW hcnd hsz _
  obtain ⟨p, q, hA, _, _, _, _⟩ := id hW
  have hA : DataW.TrodAll enc Try.prog W 0 (fun _ => true) true Try.f5.params.toList args.toList ds p := hA
  rw [Try.params5] at hA
  obtain ⟨v0, v1, d0, d1, p0, p1, rfl, rfl, rfl, h0, h1⟩ := trodAll_two hA
  have hv0 : Value.okWide Try.prog W .any base 44 v0 := hval 0 _ _ (by rw [Try.params5]; rfl) rfl
  have hw0 : Wt Try.prog 44 d0 := fun n hn => by simpa using List.all_eq_true.1 hsz n (DataW.weights_mem_each (j := 0) (t := 44) (d := d0) (by rw [Try.params5]; rfl) rfl n hn)
  have hv1 : Value.okWide Try.prog W .any base 22 v1 := hval 1 _ _ (by rw [Try.params5]; rfl) rfl
  have hw1 : Wt Try.prog 22 d1 := fun n hn => by simpa using List.all_eq_true.1 hsz n (DataW.weights_mem_each (j := 1) (t := 22) (d := d1) (by rw [Try.params5]; rfl) rfl n hn)
  obtain ⟨S0, x0, y0, L0, hg0, hr0, hs0, hp0, hk0⟩ := arg_bytess (Begun.start W) h0 hw0 hv0
  obtain ⟨S1, x1, b1, hg1, hr1, hs1, hk1⟩ := arg_bytes hg0.begun h1 hw1 hv1
  have hcalls := Runs.callsL libFr (libOk _) sound rfl hg1.begun (law S1.s x0 y0 L0 (hs0.keeps hg1.stay) (hp0.keeps hg1.stay) hk0 x1 b1 hs1 hk1) (args' := #[v0, v1]) (VRL.cons (hr0.mono hg1.ext) (VRL.cons hr1 VRL.nil))
  refine hcalls.mono fun e W' ⟨he, hb⟩ => ?_
  subst he
  exact law_post laid read rfl Try.underlying4 rfl (fun L hL => by match L, hL with | [a0, a1], _ => rfl) hW hb
theorem over : Rows.inflateJoinsRow.holds Try.pinned (OpenSpec.ofChange Rows.inflateJoinsSpec) :=
  OpenClaim.holds_of_wide 5 Try.f5 rfl rfl rfl rfl rfl rfl rfl ⟨rfl, rfl, rfl, rfl, rfl⟩ rfl rfl rfl rfl rfl (by kernel_rfl) Try.func5 (by kernel_rfl)
    (of_decide_eq_true (by kernel_rfl)) (by unfold Func.isWrapper; first | (rw [if_pos (by decide +kernel)]; kernel_rfl) | (rw [if_neg (by decide +kernel)]; exact ⟨rfl, rfl⟩))
    (fun os started H enc _ => lifted os started H enc)
theorem proved : Rows.InflateJoinsSaid := over
#print axioms proved
end Go.Proofs.Ytnclklboogdoiaa.inflateJoins
