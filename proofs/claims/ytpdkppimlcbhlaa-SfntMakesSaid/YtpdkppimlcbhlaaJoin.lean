/-
  bytes.Join, of whatever parts, with nothing between them.
-/
import Derived.Test.YtpdkppimlcbhlaaSame
import Derived.Test.YtpdkppimlcbhlaaCopyW
import Derived.Test.YtpdkppimlcbhlaaLib
set_option linter.unusedSimpArgs false
set_option linter.unusedVariables false
set_option maxRecDepth 100000
namespace Go.Cl
/-- Parts, each seen. -/
structure Pieces (s : ASt) (vs : List Value) (L : List (List UInt8)) : Prop where
  len : vs.length = L.length
  sees : ∀ k (h : k < L.length), Sees s 1 (vs.getD k undef) (L[k]).length (ofBytes L[k])
theorem Pieces.nil (s : ASt) : Pieces s [] [] := ⟨rfl, fun k h => absurd h (Nat.not_lt_zero k)⟩
theorem Pieces.cons {s : ASt} {v : Value} {a : List UInt8} {vs : List Value} {L : List (List UInt8)} (h : Sees s 1 v a.length (ofBytes a)) (k : Pieces s vs L) : Pieces s (v :: vs) (a :: L) := by
  refine ⟨by simp [k.len], fun j hj => ?_⟩
  cases j with
  | zero => exact h
  | succ j => exact k.sees j (by simpa using hj)
theorem Pieces.keeps {s s' : ASt} {vs : List Value} {L : List (List UInt8)} (h : Pieces s vs L) (k : Stay s.next s s') : Pieces s' vs L := ⟨h.len, fun j hj => (h.sees j hj).keeps k⟩
/-- All parts, one behind the other. -/
def Joined (s : ASt) (l : List UInt8) (v : Value) (s' : ASt) : Prop := Sees s' 1 v l.length (ofBytes l) ∧ (0 < l.length → Own s' 1 v l.length (ofBytes l)) ∧ Fresh s.next v ∧ Stay s.next s s'
theorem flatten_take {L : List (List UInt8)} {i : Nat} (h : i < L.length) : (L.take (i + 1)).flatten = (L.take i).flatten ++ L[i] := by
  rw [List.take_add_one, List.getElem?_eq_getElem h, List.flatten_append]
  simp only [Option.toList_some, List.flatten_cons, List.flatten_nil, List.append_nil]
theorem flatten_take_le (L : List (List UInt8)) (i : Nat) : (L.take i).flatten.length ≤ L.flatten.length := by
  have : L.flatten = (L.take i).flatten ++ (L.drop i).flatten := by rw [← List.flatten_append, List.take_append_drop]
  rw [this, List.length_append]; omega
end Go.Cl
namespace Go.Proofs.Ytpdkppimlcbhlaa
open Go.Cl
theorem noZero_any {lib : Prims} (h : lib.at 49 = some pNoZero) (s : ASt) (n : Nat) (hn : n ≤ 4294967296) :
    Runs Try.prog lib 49 [.int .i64 (n : Nat)] s fun v s' => Own s' 1 v n (List.replicate n (.chan none)) ∧ Fresh s.next v ∧ Stay s.next s s' := by
  obtain ⟨h1, h2⟩ := Own.new (s := s) (cs := List.replicate n (.chan none)) (n := n) (z := 1) (by simp)
  refine Runs.prim h pNoZero_fr (s' := s.new (.blk ⟨List.replicate n (.chan none), 1, true, 1⟩)) ?_ ⟨h2, fun i hi => by injection hi with hi; subst hi; exact Nat.le_refl _, Stay.new s _⟩
  show (if Nat.ble n 4294967296 then newSlice s (List.replicate n (.chan none)) n 1 else none) = _
  rw [if_pos (by rw [Nat.ble_eq]; exact hn), h1]
set_option maxHeartbeats 4000000 in
theorem join_any {lib : Prims} (hl : lib.at 42 = none) (hz : lib.at 49 = some pNoZero) (s : ASt) (x : Value) (vs : List Value) (L : List (List UInt8)) (hx : Sees s 1 x L.length vs) (hp : Pieces s vs L) (hnl : L.length ≤ 4294967296) (hlen : L.flatten.length ≤ 4294967296) :
    Runs Try.prog lib 42 [x, .slice none 0 0] s (Joined s L.flatten) := by
  refine Runs.enter 92 Try.func42 rfl hl rfl rfl ?_
  intro f hn hf
  have h0 : f.get 0 = x := hf 0
  have h1 : f.get 1 = .slice none 0 0 := hf 1
  clear hf
  by_cases c0 : L.length = 0
  · obtain rfl : L = [] := List.eq_nil_of_length_eq_zero c0
    have e : buildSliceA Try.prog s 27 0 [] = newSlice s [] 0 1 := by unfold buildSliceA; rw [Try.underlying27]; simp only [szU8, zU8]; rfl
    simp (config := { maxSteps := 1000000, implicitDefEqProofs := false }) (disch := omega) only [allW, allR, oneOf, evalAll, partsA, optA, Nat.reduceLT, Nat.reduceLeDiff, Nat.reduceEqDiff, Nat.reduceAdd, ↓reduceIte, hn, h0, hx.lenA Try.underlying64, List.length_nil, Int.natCast_zero, e]
    refine wstep_newSlice (by rfl) ?_
    intro v s1 hv hF hst
    simp (config := { maxSteps := 1000000, implicitDefEqProofs := false }) (disch := omega) only [allW, allR, wfn_ret, wfn_normal, oneOf, evalAll, partsA, optA, Nat.reduceLT, Nat.reduceLeDiff, Nat.reduceEqDiff, Nat.reduceAdd, ↓reduceIte, hn, Try.results42]
    exact ⟨hv.sees, fun _ => hv, hF, hst⟩
  have d0 : ¬ ((L.length : Nat) : Int) = 0 := by omega
  have hi0 := hx.indexAddr (P := Try.prog) (k := .i64) (x := (0 : Int)) Try.underlying64 szSl (by omega) (by omega)
  have hl0 := hx.load1 (P := Try.prog) agSl (k := 0) (by omega)
  have hp0 := hp.sees 0 (Nat.pos_of_ne_zero c0)
  rw [show (0 : Int).toNat = 0 from rfl] at hi0
  by_cases c1 : L.length = 1
  · have d1 : ((L.length : Nat) : Int) = 1 := by omega
    obtain ⟨a, rfl⟩ : ∃ a, L = [a] := by
      match L, c1 with
      | [a], _ => exact ⟨a, rfl⟩
    have hp0 : Sees s 1 (vs.getD 0 undef) a.length (ofBytes a) := hp0
    have hlen' : a.length ≤ 4294967296 := by simpa using hlen
    simp (config := { maxSteps := 1000000, implicitDefEqProofs := false }) (disch := omega) only [allW, allR, oneOf, evalAll, partsA, optA, Nat.reduceLT, Nat.reduceLeDiff, Nat.reduceEqDiff, Nat.reduceAdd, ↓reduceIte, hn, h0, hx.lenA Try.underlying64, eq_false d0, eq_true d1, hi0, hl0]
    refine wstep_append Try.underlying27 Try.underlying27 (.inl ⟨_, rfl⟩) szU8 byU8 zU8 rfl (.nil) hp0.src (by simp [ofBytes_length]) (by decide) (ofBytes_ok _) (by omega) (by omega) (base := s.next) (Fresh.nil _) (Nat.le_refl _) ?_
    intro v s1 hv hF hst _ _
    simp (config := { maxSteps := 1000000, implicitDefEqProofs := false }) (disch := omega) only [allW, allR, wfn_ret, wfn_normal, oneOf, evalAll, partsA, optA, Nat.reduceLT, Nat.reduceLeDiff, Nat.reduceEqDiff, Nat.reduceAdd, ↓reduceIte, hn, Try.results42]
    rw [Nat.zero_add] at hv
    simp only [Joined, List.flatten_cons, List.flatten_nil, List.append_nil]
    exact ⟨hv.sees, fun _ => hv, hF, hst⟩
  have d1 : ¬ ((L.length : Nat) : Int) = 1 := by omega
  have d2 : ¬ (0 : Int) < 0 := by omega
  simp (config := { maxSteps := 1000000, implicitDefEqProofs := false }) (disch := omega) only [allW, allR, oneOf, evalAll, partsA, optA, Nat.reduceLT, Nat.reduceLeDiff, Nat.reduceEqDiff, Nat.reduceAdd, ↓reduceIte, hn, h0, h1, hx.lenA Try.underlying64, eq_false d0, eq_false d1, (Sees.nil (s := s) (z := 1)).lenA Try.underlying27, Int.natCast_zero, eq_false d2]
  refine Comes.loopOut (fun z f s1 => ∃ i : Nat, z = L.length - i ∧ i ≤ L.length ∧ s1 = s ∧ f.n = 92 ∧ f.get 0 = x ∧ f.get 1 = .slice none 0 0 ∧ f.get 5 = .int .i64 ((L.take i).flatten.length : Nat) ∧ f.get 42 = x ∧ f.get 43 = .int .i64 (L.length : Nat) ∧ f.get 44 = .int .i64 (i : Nat))
    (fun z f s1 => z = .exit 0 ∧ s1 = s ∧ f.n = 92 ∧ f.get 0 = x ∧ f.get 1 = .slice none 0 0 ∧ f.get 5 = .int .i64 (L.flatten.length : Nat))
    ⟨0, rfl, by omega, rfl, by simp only [get_put, n_put, ↓reduceIte, Nat.reduceEqDiff, hn], by simp only [get_put, n_put, ↓reduceIte, Nat.reduceEqDiff, h0], by simp only [get_put, n_put, ↓reduceIte, Nat.reduceEqDiff, h1], by simp only [get_put, n_put, ↓reduceIte, Nat.reduceEqDiff]; rfl, by simp only [get_put, n_put, ↓reduceIte, Nat.reduceEqDiff], by simp only [get_put, n_put, ↓reduceIte, Nat.reduceEqDiff], by simp only [get_put, n_put, ↓reduceIte, Nat.reduceEqDiff]; rfl⟩ ?_ ?_
  · clear hn h0 h1 f
    rintro Q hQ z f s1 ⟨i, rfl, hi, rfl, hn, h0, h1, h5, h42, h43, h44⟩
    by_cases hlt : i < L.length
    · have e1 : (i : Int) < (L.length : Int) := by omega
      have hii := hx.indexAddr (P := Try.prog) (k := .i64) (x := (i : Int)) Try.underlying64 szSl (by omega) (by omega)
      rw [Int.toNat_natCast] at hii
      have hli := hx.load1 (P := Try.prog) agSl hlt
      have hpi := hp.sees i hlt
      have hfl := flatten_take hlt
      have hfl2 := flatten_take_le L (i + 1)
      rw [hfl, List.length_append] at hfl2
      have e2 : ¬ (9223372036854775807 : Int) - ((L.take i).flatten.length : Int) < ((L[i]).length : Int) := by omega
      simp (config := { maxSteps := 1000000, implicitDefEqProofs := false }) (disch := omega) only [allW, allR, oneOf, evalAll, partsA, optA, Nat.reduceLT, Nat.reduceLeDiff, Nat.reduceEqDiff, Nat.reduceAdd, ↓reduceIte, hn, h0, h1, h5, h42, h43, h44, eq_true e1, hii, hli, hpi.lenA Try.underlying27, wrapI, eq_false e2]
      refine wround_next (L.length - (i + 1)) (by omega) ⟨i + 1, rfl, by omega, rfl, by simp only [get_put, n_put, ↓reduceIte, Nat.reduceEqDiff, hn], by simp only [get_put, n_put, ↓reduceIte, Nat.reduceEqDiff, h0], by simp only [get_put, n_put, ↓reduceIte, Nat.reduceEqDiff, h1], ?_, by simp only [get_put, n_put, ↓reduceIte, Nat.reduceEqDiff, h42], by simp only [get_put, n_put, ↓reduceIte, Nat.reduceEqDiff, h43], by simp only [get_put, n_put, ↓reduceIte, Nat.reduceEqDiff]; rfl⟩
      simp only [get_put, n_put, ↓reduceIte, Nat.reduceEqDiff]
      rw [hfl, List.length_append]; rfl
    · obtain rfl : i = L.length := by omega
      have e1 : ¬ ((L.length : Nat) : Int) < ((L.length : Nat) : Int) := by omega
      rw [List.take_length] at h5
      simp (config := { maxSteps := 1000000, implicitDefEqProofs := false }) (disch := omega) only [allW, allR, oneOf, evalAll, partsA, optA, Nat.reduceLT, Nat.reduceLeDiff, Nat.reduceEqDiff, Nat.reduceAdd, ↓reduceIte, hn, h0, h1, h5, h42, h43, h44, eq_false e1]
      refine hQ _ _ _ ⟨rfl, rfl, by simp only [get_put, n_put, ↓reduceIte, Nat.reduceEqDiff, hn], by simp only [get_put, n_put, ↓reduceIte, Nat.reduceEqDiff, h0], by simp only [get_put, n_put, ↓reduceIte, Nat.reduceEqDiff, h1], by simp only [get_put, n_put, ↓reduceIte, Nat.reduceEqDiff, h5]⟩
  clear hn h0 h1 f
  rintro _ f s1 ⟨rfl, hs1, hn, h0, h1, h5⟩
  rw [hs1]; clear hs1 s1
  obtain ⟨N, hN⟩ : ∃ N, N = L.flatten.length := ⟨_, rfl⟩
  rw [← hN] at h5 hlen
  simp (config := { maxSteps := 1000000, implicitDefEqProofs := false }) (disch := omega) only [allW, allR, oneOf, evalAll, partsA, optA, Nat.reduceLT, Nat.reduceLeDiff, Nat.reduceEqDiff, Nat.reduceAdd, ↓reduceIte, hn, h0, h1, h5]
  refine (noZero_any hz s N hlen).mono ?_
  rintro b0 s1 ⟨hb0, hF0, hst1⟩
  obtain ⟨b, hb1, hb, _, hbi⟩ := hb0.tight (P := Try.prog) (k := .i64) (k2 := .i64) Try.underlying27 szU8
  have hbF : Fresh s.next b := fun j hj => hF0 j (hbi j hj)
  have hP1 := hp.keeps hst1
  have hx1 := hx.keeps hst1
  have hl1 := hx1.load1 (P := Try.prog) agSl (k := 0) (by omega)
  have hp1 := hP1.sees 0 (Nat.pos_of_ne_zero c0)
  simp (config := { maxSteps := 1000000, implicitDefEqProofs := false }) (disch := omega) only [allW, allR, oneOf, evalAll, partsA, optA, Nat.reduceLT, Nat.reduceLeDiff, Nat.reduceEqDiff, Nat.reduceAdd, ↓reduceIte, hn, h0, h1, h5, hb1, hi0, hl1]
  refine wstep_copyAll Try.underlying27 szU8 hb hp1 (ofBytes_ok _) ?_
  intro s2 hb2 htb2 hnx2
  have hfl0 : (L.take 1).flatten.length ≤ L.flatten.length := flatten_take_le L 1
  have hfl1 : (L.take 1).flatten = L[0] := by
    have := flatten_take (L := L) (i := 0) (Nat.pos_of_ne_zero c0)
    simpa using this
  rw [hfl1] at hfl0
  have hm : min (L[0]).length N = (L[0]).length := by omega
  rw [hm, ofBytes_take, List.take_length] at hb2
  have hb2' : Room s2 b N (ofBytes (L.take 1).flatten ++ (List.replicate N (Value.chan none)).drop (L[0]).length) := by
    rw [hfl1]
    have := over_mid (a := []) (b := ofBytes L[0]) (c := List.replicate N (Value.chan none)) (off := 0) rfl
    rw [List.nil_append, List.nil_append, ofBytes_length] at this
    rw [← this]; exact hb2
  have hst2 : Stay s.next s s2 := hst1.trans (htb2.keeps hbF hst1.next)
  clear hb2 hb hb0 hb1
  obtain ⟨rest, hrest⟩ : ∃ r, r = (List.replicate N (Value.chan none)).drop (L[0]).length := ⟨_, rfl⟩
  rw [← hrest] at hb2'
  have hx2 := hx.keeps hst2
  have hcut := hx2.cut (lo := 1) (hi := L.length) (by omega) (Nat.le_refl _)
  rw [hm]
  simp (config := { maxSteps := 1000000, implicitDefEqProofs := false }) (disch := omega) only [allW, allR, oneOf, evalAll, partsA, optA, Nat.reduceLT, Nat.reduceLeDiff, Nat.reduceEqDiff, Nat.reduceAdd, ↓reduceIte, hn, h0, h1, hx2.sliceLow Try.underlying64 szSl, show (1 : Int).toNat = 1 from rfl, hcut.lenA Try.underlying64]
  refine Comes.loopAt (fun z f s3 => ∃ (i : Nat) (rest : List Value), z = L.length - 1 - i ∧ i ≤ L.length - 1 ∧ Room s3 b N (ofBytes (L.take (i + 1)).flatten ++ rest) ∧ Stay s.next s s3 ∧ s2.next ≤ s3.next ∧ f.n = 92 ∧ f.get 1 = .slice none 0 0 ∧ f.get 8 = b ∧ f.get 9 = .int .i64 ((L.take (i + 1)).flatten.length : Nat) ∧ f.get 70 = cutS 1 x 1 L.length ∧ f.get 71 = .int .i64 ((L.length - 1 : Nat) : Int) ∧ f.get 72 = .int .i64 (i : Nat))
    ⟨0, rest, rfl, by omega, hb2', hst2, Nat.le_refl _, by simp only [get_put, n_put, ↓reduceIte, Nat.reduceEqDiff, hn], by simp only [get_put, n_put, ↓reduceIte, Nat.reduceEqDiff, h1], by simp only [get_put, n_put, ↓reduceIte, Nat.reduceEqDiff], by simp only [get_put, n_put, ↓reduceIte, Nat.reduceEqDiff]; rw [hfl1], by simp only [get_put, n_put, ↓reduceIte, Nat.reduceEqDiff], by simp only [get_put, n_put, ↓reduceIte, Nat.reduceEqDiff], by simp only [get_put, n_put, ↓reduceIte, Nat.reduceEqDiff]; rfl⟩ ?_
  clear hn h0 h1 h5 hb2' hst2 hrest rest hfl0 hfl1 hm f
  rintro z f s3 ⟨i, rest, rfl, hi, hb3, hst3, hn3, hn, h1, h8, h9, h70, h71, h72⟩
  have hx3 := (hx.keeps hst3).cut (lo := 1) (hi := L.length) (by omega) (Nat.le_refl _)
  by_cases hlt : i < L.length - 1
  · have e1 : (i : Int) < ((L.length - 1 : Nat) : Int) := by omega
    have hlt' : i + 1 < L.length := by omega
    have hii := hx3.indexAddr (P := Try.prog) (k := .i64) (x := (i : Int)) Try.underlying64 szSl (by omega) (by omega)
    rw [Int.toNat_natCast] at hii
    have hli := hx3.load1 (P := Try.prog) agSl hlt
    have hge : (((vs.drop (1 * 1)).take ((L.length - 1) * 1))).getD i undef = vs.getD (i + 1) undef := by
      simp only [List.getD_eq_getElem?_getD]
      rw [List.getElem?_take_of_lt (by omega), List.getElem?_drop, show 1 * 1 + i = i + 1 by omega]
    rw [hge] at hli
    have hpi := (hp.keeps hst3).sees (i + 1) hlt'
    have hfl := flatten_take hlt'
    have hfl2 := flatten_take_le L (i + 1 + 1)
    rw [hfl, List.length_append, ← hN] at hfl2
    obtain ⟨q, hq⟩ : ∃ q, q = (L.take (i + 1)).flatten := ⟨_, rfl⟩
    rw [← hq] at hb3 h9 hfl hfl2
    have hs1 := hb3.slice (P := Try.prog) (k := .i64) (x := ((q.length : Nat) : Int)) Try.underlying27 szU8 (by omega) (by omega)
    rw [Int.toNat_natCast] at hs1
    have hnil : ∃ a n c, cutS 1 b q.length N = .slice a n c := by unfold cutS; split <;> exact ⟨_, _, _, rfl⟩
    obtain ⟨ca, cn, cc, hcs⟩ := hnil
    have hcn : copyA Try.prog s3 27 (cutS 1 b q.length N) (.slice none 0 0) = some (.int .i64 0, s3) := by rw [hcs]; exact copyA_nil Try.underlying27 szU8 _ _ _ _
    simp (config := { maxSteps := 1000000, implicitDefEqProofs := false }) (disch := omega) only [allW, allR, oneOf, evalAll, partsA, optA, Nat.reduceLT, Nat.reduceLeDiff, Nat.reduceEqDiff, Nat.reduceAdd, ↓reduceIte, hn, h1, h8, h9, h70, h71, h72, eq_true e1, hii, hli, hs1, hcn, wrapI, Int.add_zero]
    refine wstep_copy Try.underlying27 szU8 hb3 (by omega) hpi (ofBytes_ok _) ?_
    intro s4 hb4 htb4 hnx4
    have hm : min (L[i + 1]).length (N - q.length) = (L[i + 1]).length := by omega
    rw [hm, ofBytes_take, List.take_length, over_mid (by rw [ofBytes_length]), ← ofBytes_append, ← hfl, ofBytes_length] at hb4
    rw [hm]
    simp (config := { maxSteps := 1000000, implicitDefEqProofs := false }) (disch := omega) only [allW, allR, oneOf, evalAll, partsA, optA, Nat.reduceLT, Nat.reduceLeDiff, Nat.reduceEqDiff, Nat.reduceAdd, ↓reduceIte, hn, h1, h8, h9, h70, h71, h72, wrapI]
    refine wround_next (L.length - 1 - (i + 1)) (by omega) ⟨i + 1, _, rfl, by omega, hb4, hst3.trans (htb4.keeps hbF hst3.next), by omega, by simp only [get_put, n_put, ↓reduceIte, Nat.reduceEqDiff, hn], by simp only [get_put, n_put, ↓reduceIte, Nat.reduceEqDiff, h1], by simp only [get_put, n_put, ↓reduceIte, Nat.reduceEqDiff, h8], ?_, by simp only [get_put, n_put, ↓reduceIte, Nat.reduceEqDiff, h70], by simp only [get_put, n_put, ↓reduceIte, Nat.reduceEqDiff, h71], by simp only [get_put, n_put, ↓reduceIte, Nat.reduceEqDiff]; rfl⟩
    simp only [get_put, n_put, ↓reduceIte, Nat.reduceEqDiff]
    rw [hfl, List.length_append]; rfl
  · obtain rfl : i = L.length - 1 := by omega
    have e1 : ¬ ((L.length - 1 : Nat) : Int) < ((L.length - 1 : Nat) : Int) := by omega
    simp (config := { maxSteps := 1000000, implicitDefEqProofs := false }) (disch := omega) only [allW, allR, oneOf, evalAll, partsA, optA, Nat.reduceLT, Nat.reduceLeDiff, Nat.reduceEqDiff, Nat.reduceAdd, ↓reduceIte, hn, h1, h8, h9, h70, h71, h72, eq_false e1]
    simp (config := { maxSteps := 1000000, implicitDefEqProofs := false }) (disch := omega) only [allW, allR, wfn_ret, wfn_normal, oneOf, evalAll, partsA, optA, Nat.reduceLT, Nat.reduceLeDiff, Nat.reduceEqDiff, Nat.reduceAdd, ↓reduceIte, hn, h8, Try.results42]
    have hall : L.take (L.length - 1 + 1) = L := by rw [List.take_of_length_le (by omega)]
    rw [hall] at hb3
    have hr := hb3.sees.length
    rw [List.length_append, ofBytes_length, ← hN, Nat.mul_one] at hr
    obtain rfl : rest = [] := List.eq_nil_of_length_eq_zero (by omega)
    rw [List.append_nil, hN] at hb3
    exact ⟨hb3.sees, fun h => hb3.own h, hbF, hst3⟩
end Go.Proofs.Ytpdkppimlcbhlaa
