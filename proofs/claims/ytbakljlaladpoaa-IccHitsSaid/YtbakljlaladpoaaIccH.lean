/-
  Profiles: the program's head.
-/
import Derived.Test.YtbakljlaladpoaaIccG
import Derived.Test.YtbakljlaladpoaaCutW
import Derived.Test.YtbakljlaladpoaaLib
set_option linter.unusedSimpArgs false
set_option linter.unusedVariables false
namespace Go.Proofs.Ytbakljlaladpoaa
open Go.Cl Go.Cl.Icc
theorem zHead : zeroB Try.prog 24 = some (.agg (headC 0 0 0 [] [] []).toArray) := by kernel_rfl
theorem szHead : sizeB Try.prog 24 = some 6 := by kernel_rfl
theorem agHead : isAggB Try.prog 24 = some true := by kernel_rfl
theorem agRd : isAggB Try.prog 58 = some true := by kernel_rfl
theorem szRd : sizeB Try.prog 58 = some 1 := by kernel_rfl
theorem bHead (a : Int) (x y z : List UInt8) : buildA Try.prog 24 [(0, .int .i64 a), (3, .string ⟨x.toArray⟩), (4, .string ⟨y.toArray⟩), (5, .string ⟨z.toArray⟩)] = some (.agg (headC a 0 0 x y z).toArray) := by
  unfold buildA; rw [Try.underlying24]
  have hz : zeroB Try.prog 24 = some (.agg #[.int .i64 0, .int .i64 0, .int .i64 0, .string ⟨#[]⟩, .string ⟨#[]⟩, .string ⟨#[]⟩]) := by kernel_rfl
  rw [hz]
  have ci : ∀ k n, (Value.int k n).cells = #[.int k n] := fun _ _ => rfl
  have cs : ∀ b, (Value.string b).cells = #[.string b] := fun _ => rfl
  simp [szInt, qszStr, plainV, plain1, fillA, placeOf, cells_agg, setAt, ci, cs, headC]
theorem qzStr : zeroB Try.prog 9 = some (.string ⟨#[]⟩) := by kernel_rfl
theorem strs4 (s : ASt) (a b c d : ByteArray) : buildSliceA Try.prog s 77 4 [(0, .string a), (1, .string b), (2, .string c), (3, .string d)] = newSlice s [.string a, .string b, .string c, .string d] 4 1 :=
  buildV4 Try.underlying77 qszStr qzStr rfl ⟨_, rfl⟩ rfl rfl rfl rfl
theorem plHead : plainV (.agg (headC 0 0 0 [] [] []).toArray) = true := by kernel_rfl
theorem turnsA {A : Nat → Bool} {i n : Nat} {s s' : ASt} (hA : ∀ j, A j = true → j < n) (hn : n ≤ s.next) (hne : A i = false) (h : Turns (cptr i) s s') : LA.StayA A s s' :=
  ⟨h.next, fun j hj => h.get j (by have := hA j hj; omega) (fun e => by have e : some i = some j := e; injection e with e; rw [e] at hne; rw [hne] at hj; cases hj)⟩
theorem CurIs.ofPut {base : Nat} {s s' : ASt} {i j : Nat} {l : List UInt8} {p : Nat} (h : CurIs base s i l p) (h1 : s'.next = s.next) (h2 : ∀ q, q ≠ j → s'.heap.get q = s.heap.get q) (hj : base ≤ j) (hij : i ≠ j) : CurIs base s' i l p := by
  obtain ⟨b, ht, hl, h3, h4⟩ := h
  exact ⟨b, ht.turns (v := cptr j) ⟨by omega, fun q _ hq => h2 q (fun e => hq (by rw [e]; rfl))⟩ (cptr_ne (Ne.symm hij)), hl.stay (Stay.ofPut h1 h2 hj), h3, h4⟩
def headIs (l : List UInt8) : List Value := headC (num l 0) ((l.getD 8 0).toNat : Int) (parts (four l 16)) (four l 12) (four l 16) (four l 20)
def CLASSES : List (List UInt8) := [[112, 114, 116, 114], [109, 110, 116, 114], [115, 99, 110, 114], [115, 112, 97, 99]]
def XYZ : List UInt8 := [88, 89, 90, 32]
def ACSP : List UInt8 := [97, 99, 115, 112]
def okHead (l : List UInt8) : Prop := num l 0 = l.length ∧ 2 ≤ (l.getD 8 0).toNat ∧ (l.getD 8 0).toNat ≤ 4 ∧ four l 12 ∈ CLASSES ∧ 0 < parts (four l 16) ∧ (four l 20 = XYZ ∨ four l 20 = LAB) ∧ four l 36 = ACSP
def okMany (l : List UInt8) : Prop := num l 128 ≤ 100 ∧ 132 + 12 * num l 128 ≤ l.length
instance (l : List UInt8) : Decidable (okHead l) := by unfold okHead; infer_instance
instance (l : List UInt8) : Decidable (okMany l) := by unfold okMany; infer_instance
def Headed (base : Nat) (s : ASt) (i : Nat) (l : List UInt8) (v : Value) (s' : ASt) : Prop := v = .tuple #[.agg (headIs l).toArray, .int .i64 (num l 128), .bool (decide (okHead l) && decide (okMany l))] ∧ (∃ p', CurIs base s' i l p') ∧ Turns (cptr i) s s'
theorem hf0 (i o c : Nat) : fieldAddrA Try.prog 24 (.pointer (some ⟨i, o, some c⟩)) 0 = some (.pointer (some ⟨i, o + 0, some c⟩)) := by
  unfold fieldAddrA; rw [Try.underlying24]; simp [szInt, qszStr]
theorem hf1 (i o c : Nat) : fieldAddrA Try.prog 24 (.pointer (some ⟨i, o, some c⟩)) 1 = some (.pointer (some ⟨i, o + 1, some c⟩)) := by
  unfold fieldAddrA; rw [Try.underlying24]; simp [szInt, qszStr]
theorem hf2 (i o c : Nat) : fieldAddrA Try.prog 24 (.pointer (some ⟨i, o, some c⟩)) 2 = some (.pointer (some ⟨i, o + 2, some c⟩)) := by
  unfold fieldAddrA; rw [Try.underlying24]; simp [szInt, qszStr]
theorem hf3 (i o c : Nat) : fieldAddrA Try.prog 24 (.pointer (some ⟨i, o, some c⟩)) 3 = some (.pointer (some ⟨i, o + 3, some c⟩)) := by
  unfold fieldAddrA; rw [Try.underlying24]; simp [szInt, qszStr]
theorem hf4 (i o c : Nat) : fieldAddrA Try.prog 24 (.pointer (some ⟨i, o, some c⟩)) 4 = some (.pointer (some ⟨i, o + 4, some c⟩)) := by
  unfold fieldAddrA; rw [Try.underlying24]; simp [szInt, qszStr]
theorem hf5 (i o c : Nat) : fieldAddrA Try.prog 24 (.pointer (some ⟨i, o, some c⟩)) 5 = some (.pointer (some ⟨i, o + 5, some c⟩)) := by
  unfold fieldAddrA; rw [Try.underlying24]; simp [szInt, qszStr]
set_option maxHeartbeats 8000000 in
theorem head_any (base : Nat) (s : ASt) (i : Nat) (l : List UInt8) (p : Nat) (hc : CurIs base s i l p) (hb : base ≤ s.next) (hk : 132 ≤ l.length) (hlen : l.length ≤ 100000000) :
    Runs Try.prog libN 21 [.agg #[cptr i]] s (Headed base s i l) := by
  refine Runs.enter 92 Try.func21 rfl rfl rfl rfl ?_
  intro f hn hf
  have h0 : f.get 0 = .agg #[cptr i] := hf 0
  clear hf
  have hid : i < s.next := by obtain ⟨b, ht, _⟩ := hc; exact ht.lt
  simp (config := { maxSteps := 1000000, implicitDefEqProofs := false }) (disch := omega) only [allW, cond_true, cond_false, oneOf, evalAll, partsA, optA, List.drop_zero, List.drop_succ_cons, List.cons_append, List.nil_append, Nat.reduceLT, Nat.reduceLeDiff, Nat.reduceEqDiff, Nat.reduceAdd, List.getD_cons_zero, List.getD_cons_succ, List.set_cons_zero, List.set_cons_succ, ↓reduceIte, if_true, if_false, beq_self_eq_true, ne_eq, eq_self, not_true_eq_false, not_false_eq_true, hn, h0]
  refine wstep_newPtr ?_
  intro s1 ht1 hst1 hnx1
  simp (config := { maxSteps := 1000000, implicitDefEqProofs := false }) (disch := omega) only [allW, cond_true, cond_false, oneOf, evalAll, partsA, optA, List.drop_zero, List.drop_succ_cons, List.cons_append, List.nil_append, Nat.reduceLT, Nat.reduceLeDiff, Nat.reduceEqDiff, Nat.reduceAdd, List.getD_cons_zero, List.getD_cons_succ, List.set_cons_zero, List.set_cons_succ, ↓reduceIte, if_true, if_false, beq_self_eq_true, ne_eq, eq_self, not_true_eq_false, not_false_eq_true, hn, h0, List.length_cons, List.length_nil, zHead, plHead]
  refine wstep_newPtr ?_
  intro s2 ht2 hst2 hnx2
  have hd6 : (headC 0 0 0 [] [] []).length + 1 = 7 := rfl
  simp (config := { maxSteps := 1000000, implicitDefEqProofs := false }) (disch := omega) only [allW, cond_true, cond_false, oneOf, evalAll, partsA, optA, List.drop_zero, List.drop_succ_cons, List.cons_append, List.nil_append, Nat.reduceLT, Nat.reduceLeDiff, Nat.reduceEqDiff, Nat.reduceAdd, List.getD_cons_zero, List.getD_cons_succ, List.set_cons_zero, List.set_cons_succ, ↓reduceIte, if_true, if_false, beq_self_eq_true, ne_eq, eq_self, not_true_eq_false, not_false_eq_true, hn, h0, hd6]
  obtain ⟨A, hA⟩ : ∃ A : Nat → Bool, A = fun j => decide (j = s.next) := ⟨_, rfl⟩
  have hAl : ∀ j, A j = true → j < s2.next := by
    intro j h
    rw [hA] at h
    have := of_decide_eq_true h
    omega
  refine LB.Drawn.looseK A hAl 5 1 (by kernel_rfl) (by kernel_rfl) ?_
  have hAi : A i = false := by rw [hA]; exact decide_eq_false (by omega)
  have hsp := Stay.spare s2 1
  have htb := (ht1.keeps hst2).keeps hsp
  have hcb := ((hc.keeps hb hst1).keeps (Nat.le_trans hb hst1.next) hst2).keeps (by omega) hsp
  have hAb : A s.next = true := by rw [hA]; exact decide_eq_true rfl
  have hlow : LA.lowV A (some (.pointer (some ⟨s.next, 0, some 2⟩))) = true := LA.lowV_ptr (A := A) (i := s.next) hAb
  have l0 := Thing.loadAll (P := Try.prog) (cs := [cptr i]) agRd szRd htb (c := 2) rfl
  have hself : valEq (.agg #[cptr i]) (.agg #[cptr i]) = true := by simp [valEq, valEqL, valEq1, cptr]
  have hnT : (spare s2 1).next = s2.next + 1 := spare_next _ _
  simp (config := { maxSteps := 1000000, implicitDefEqProofs := false }) (disch := omega) only [allW, allL, allB, Nat.sub_self, Nat.add_one_sub_one, Nat.reduceSub, cond_true, cond_false, oneOf, evalAll, partsA, optA, List.drop_zero, List.drop_succ_cons, List.cons_append, List.nil_append, Nat.reduceLT, Nat.reduceLeDiff, Nat.reduceEqDiff, Nat.reduceAdd, List.getD_cons_zero, List.getD_cons_succ, List.set_cons_zero, List.set_cons_succ, ↓reduceIte, if_true, if_false, beq_self_eq_true, ne_eq, eq_self, not_true_eq_false, not_false_eq_true, hn, hlow, l0, hself]
  refine (num_any rfl rfl rfl rfl rfl rfl rfl rfl base (spare s2 1) i l p 0 hcb (by omega) (by omega) hlen).mono ?_
  rintro _ t1 ⟨rfl, hct1, hut1⟩
  refine ⟨fun _ => turnsA (n := s2.next) hAl (by omega) hAi hut1, ?_⟩
  have htbt1 := (htb).turns hut1 (cptr_ne (by omega))
  have l0t1 := Thing.loadAll (P := Try.prog) (cs := [cptr i]) agRd szRd htbt1 (c := 2) rfl
  have hnt1 := (hut1).next
  simp (config := { maxSteps := 1000000, implicitDefEqProofs := false }) (disch := omega) only [allW, allL, allB, Nat.sub_self, Nat.add_one_sub_one, Nat.reduceSub, cond_true, cond_false, oneOf, evalAll, partsA, optA, List.drop_zero, List.drop_succ_cons, List.cons_append, List.nil_append, Nat.reduceLT, Nat.reduceLeDiff, Nat.reduceEqDiff, Nat.reduceAdd, List.getD_cons_zero, List.getD_cons_succ, List.set_cons_zero, List.set_cons_succ, ↓reduceIte, if_true, if_false, beq_self_eq_true, ne_eq, eq_self, not_true_eq_false, not_false_eq_true, hn, hlow, l0t1, hself]
  refine (text_any rfl rfl rfl rfl rfl rfl rfl base t1 i l _ 12 hct1 (by omega) (by omega) hlen).mono ?_
  rintro _ t2 ⟨rfl, hct2, hut2⟩
  refine ⟨fun _ => turnsA (n := s2.next) hAl (by omega) hAi hut2, ?_⟩
  have htbt2 := (htbt1).turns hut2 (cptr_ne (by omega))
  have l0t2 := Thing.loadAll (P := Try.prog) (cs := [cptr i]) agRd szRd htbt2 (c := 2) rfl
  have hnt2 := (hut2).next
  simp (config := { maxSteps := 1000000, implicitDefEqProofs := false }) (disch := omega) only [allW, allL, allB, Nat.sub_self, Nat.add_one_sub_one, Nat.reduceSub, cond_true, cond_false, oneOf, evalAll, partsA, optA, List.drop_zero, List.drop_succ_cons, List.cons_append, List.nil_append, Nat.reduceLT, Nat.reduceLeDiff, Nat.reduceEqDiff, Nat.reduceAdd, List.getD_cons_zero, List.getD_cons_succ, List.set_cons_zero, List.set_cons_succ, ↓reduceIte, if_true, if_false, beq_self_eq_true, ne_eq, eq_self, not_true_eq_false, not_false_eq_true, hn, hlow, l0t2, hself]
  refine (text_any rfl rfl rfl rfl rfl rfl rfl base t2 i l _ 16 hct2 (by omega) (by omega) hlen).mono ?_
  rintro _ t3 ⟨rfl, hct3, hut3⟩
  refine ⟨fun _ => turnsA (n := s2.next) hAl (by omega) hAi hut3, ?_⟩
  have htbt3 := (htbt2).turns hut3 (cptr_ne (by omega))
  have l0t3 := Thing.loadAll (P := Try.prog) (cs := [cptr i]) agRd szRd htbt3 (c := 2) rfl
  have hnt3 := (hut3).next
  simp (config := { maxSteps := 1000000, implicitDefEqProofs := false }) (disch := omega) only [allW, allL, allB, Nat.sub_self, Nat.add_one_sub_one, Nat.reduceSub, cond_true, cond_false, oneOf, evalAll, partsA, optA, List.drop_zero, List.drop_succ_cons, List.cons_append, List.nil_append, Nat.reduceLT, Nat.reduceLeDiff, Nat.reduceEqDiff, Nat.reduceAdd, List.getD_cons_zero, List.getD_cons_succ, List.set_cons_zero, List.set_cons_succ, ↓reduceIte, if_true, if_false, beq_self_eq_true, ne_eq, eq_self, not_true_eq_false, not_false_eq_true, hn, hlow, l0t3, hself]
  refine (text_any rfl rfl rfl rfl rfl rfl rfl base t3 i l _ 20 hct3 (by omega) (by omega) hlen).mono ?_
  rintro _ t4 ⟨rfl, hct4, hut4⟩
  refine ⟨fun _ => turnsA (n := s2.next) hAl (by omega) hAi hut4, ?_⟩
  have htbt4 := htbt3.turns hut4 (cptr_ne (by omega))
  have hvH : ∀ a x y z, valEq (.agg (headC a 0 0 x y z).toArray) (.agg (headC a 0 0 x y z).toArray) = true := fun a x y z => by simp [valEq, valEqL, valEq1, headC]
  simp (config := { maxSteps := 1000000, implicitDefEqProofs := false }) (disch := omega) only [allW, allL, allB, Nat.sub_self, Nat.add_one_sub_one, Nat.reduceSub, cond_true, cond_false, oneOf, evalAll, partsA, optA, List.drop_zero, List.drop_succ_cons, List.cons_append, List.nil_append, Nat.reduceLT, Nat.reduceLeDiff, Nat.reduceEqDiff, Nat.reduceAdd, List.getD_cons_zero, List.getD_cons_succ, List.set_cons_zero, List.set_cons_succ, ↓reduceIte, if_true, if_false, beq_self_eq_true, ne_eq, eq_self, not_true_eq_false, not_false_eq_true, hn, hlow, hself, bHead, hvH, zHead, plHead]
  have hn4 := hut4.next
  refine LB.smake_newPtr (by omega) ?_
  intro t5 ht5 hnx5 hot5
  simp (config := { maxSteps := 1000000, implicitDefEqProofs := false }) (disch := omega) only [allW, allL, allB, Nat.sub_self, Nat.add_one_sub_one, Nat.reduceSub, cond_true, cond_false, oneOf, evalAll, partsA, optA, List.drop_zero, List.drop_succ_cons, List.cons_append, List.nil_append, Nat.reduceLT, Nat.reduceLeDiff, Nat.reduceEqDiff, Nat.reduceAdd, List.getD_cons_zero, List.getD_cons_succ, List.set_cons_zero, List.set_cons_succ, ↓reduceIte, if_true, if_false, beq_self_eq_true, ne_eq, eq_self, not_true_eq_false, not_false_eq_true, hn, hd6]
  refine LB.sstep_storeAll szHead (by decide) ht5 rfl rfl rfl rfl (fun _ => by rw [hA]; exact decide_eq_false (by omega)) ?_
  intro t6 ht6 hnx6 hot6
  have htb6 := (htbt4.ofPut hnx5 hot5 (by omega)).ofPut hnx6 hot6 (by omega)
  have hc6 := (hct4.ofPut hnx5 hot5 (by omega) (by omega)).ofPut hnx6 hot6 (by omega) (by omega)
  have hu62 : Turns (cptr i) s2 t6 := (((((Turns.after hsp hut1).trans hut2).trans hut3).trans hut4).put (by omega) hnx5 hot5).put (by omega) hnx6 hot6
  have htr6 := ht2.turns hu62 (cptr_ne (by omega))
  have hu6 : Turns (cptr i) s t6 := Turns.after (hst1.trans (hst2.weaken hst1.next)) hu62
  clear htb l0 htbt1 l0t1 htbt2 l0t2 htbt3 l0t3 htbt4 hcb hct1 hct2 hct3 hct4 ht1 ht2
  have hb6 : base ≤ t6.next := by omega
  have l6 := htb6.load (P := Try.prog) agCp (off := 0) (c := 2) rfl (by simp)
  simp (config := { maxSteps := 1000000, implicitDefEqProofs := false }) (disch := omega) only [allW, allL, allB, Nat.sub_self, Nat.add_one_sub_one, Nat.reduceSub, cond_true, cond_false, oneOf, evalAll, partsA, optA, List.drop_zero, List.drop_succ_cons, List.cons_append, List.nil_append, Nat.reduceLT, Nat.reduceLeDiff, Nat.reduceEqDiff, Nat.reduceAdd, List.getD_cons_zero, List.getD_cons_succ, List.set_cons_zero, List.set_cons_succ, ↓reduceIte, if_true, if_false, beq_self_eq_true, ne_eq, eq_self, not_true_eq_false, not_false_eq_true, hn, rfld0, l6, cptr_self]
  refine (seek_any rfl base t6 i l _ (8 : Int) hc6 hb6).mono ?_
  rintro _ t7 ⟨rfl, hc7, hu7⟩
  rw [if_pos (by omega), show (8 : Int).toNat = 8 from rfl] at hc7
  have hn7 := hu7.next
  have htb7 := htb6.turns hu7 (cptr_ne (by omega))
  have ht7 := ht6.turns hu7 (cptr_ne (by omega))
  have hu7' := hu6.trans hu7
  have htr7 := htr6.turns hu7 (cptr_ne (by omega))
  refine wcall_reframe (fun f => f.n = 92 ∧ f.get 0 = .agg #[cptr i] ∧ f.get 1 = .pointer (some ⟨s.next, 0, some 2⟩) ∧ f.get 2 = .pointer (some ⟨s1.next, 0, some 7⟩) ∧ f.get 5 = .pointer (some ⟨s2.next, 0, some 7⟩)) ⟨by simp only [get_put, n_put, ↓reduceIte, Nat.reduceEqDiff, hn], by first | simp only [get_put, n_put, ↓reduceIte, Nat.reduceEqDiff, h0] | simp only [get_put, n_put, ↓reduceIte, Nat.reduceEqDiff], by first | simp only [get_put, n_put, ↓reduceIte, Nat.reduceEqDiff, h1] | simp only [get_put, n_put, ↓reduceIte, Nat.reduceEqDiff], by first | simp only [get_put, n_put, ↓reduceIte, Nat.reduceEqDiff, h2] | simp only [get_put, n_put, ↓reduceIte, Nat.reduceEqDiff], by first | simp only [get_put, n_put, ↓reduceIte, Nat.reduceEqDiff, h5] | simp only [get_put, n_put, ↓reduceIte, Nat.reduceEqDiff]⟩ ?_
  rintro f ⟨hn, h0, h1, h2, h5⟩
  clear hu6 hu62 hut1 hut2 hut3 hut4 htr6 htb6 ht6 hc6 l6 ht5 hot5 hot6
  have ht7 : Thing t7 s2.next [.int .i64 (num l 0), .int .i64 0, .int .i64 0, .string ⟨(four l 12).toArray⟩, .string ⟨(four l 16).toArray⟩, .string ⟨(four l 20).toArray⟩] := ht7
  simp (config := { maxSteps := 1000000, implicitDefEqProofs := false }) (disch := omega) only [allW, allL, allB, Nat.sub_self, Nat.add_one_sub_one, Nat.reduceSub, cond_true, cond_false, oneOf, evalAll, partsA, optA, List.drop_zero, List.drop_succ_cons, List.cons_append, List.nil_append, Nat.reduceLT, Nat.reduceLeDiff, Nat.reduceEqDiff, Nat.reduceAdd, List.getD_cons_zero, List.getD_cons_succ, List.set_cons_zero, List.set_cons_succ, ↓reduceIte, if_true, if_false, beq_self_eq_true, ne_eq, eq_self, not_true_eq_false, not_false_eq_true, hn]
  obtain ⟨B, hB⟩ : ∃ B : Nat → Bool, B = fun j => decide (j = s.next) || decide (j = s2.next) := ⟨_, rfl⟩
  have hBl : ∀ j, B j = true → j < t7.next := by
    intro j h
    rw [hB] at h
    have : j = s.next ∨ j = s2.next := by simpa using h
    omega
  have hBi : B i = false := by rw [hB]; simp; omega
  have hB1 : B s.next = true := by rw [hB]; simp
  have hB2 : B s2.next = true := by rw [hB]; simp
  have hlB : LA.lowV B (some (.pointer (some ⟨s.next, 0, some 2⟩))) = true := LA.lowV_ptr (A := B) (i := s.next) hB1
  have hlH : ∀ k, LA.lowV B (some (.pointer (some ⟨s2.next, k, some 7⟩))) = true := fun k => LA.lowV_ptr (A := B) (i := s2.next) hB2
  refine LB.Drawn.looseK B hBl 2 0 (by kernel_rfl) (by kernel_rfl) ?_
  rw [show spare t7 0 = t7 from rfl]
  have l7 := htb7.load (P := Try.prog) agCp (off := 0) (c := 2) rfl (by simp)
  simp (config := { maxSteps := 1000000, implicitDefEqProofs := false }) (disch := omega) only [allW, allL, allB, Nat.sub_self, Nat.add_one_sub_one, Nat.reduceSub, cond_true, cond_false, oneOf, evalAll, partsA, optA, List.drop_zero, List.drop_succ_cons, List.cons_append, List.nil_append, Nat.reduceLT, Nat.reduceLeDiff, Nat.reduceEqDiff, Nat.reduceAdd, List.getD_cons_zero, List.getD_cons_succ, List.set_cons_zero, List.set_cons_succ, ↓reduceIte, if_true, if_false, beq_self_eq_true, ne_eq, eq_self, not_true_eq_false, not_false_eq_true, hn, h0, h1, h5, rfld0, hlB, l7, cptr_self]
  refine (next_any rfl rfl rfl rfl rfl base t7 i l 8 hc7 (by omega) (by omega)).mono ?_
  rintro _ t8 ⟨rfl, hc8, hu8⟩
  refine ⟨fun _ => turnsA (n := t7.next) hBl (by omega) hBi hu8, ?_⟩
  have hbyte : byteAt l ((8 : Nat) : Int) = ((l.getD 8 0).toNat : Int) := by unfold byteAt; rw [if_pos (by omega)]; rfl
  rw [hbyte]
  have hn8 := hu8.next
  have htb8 := htb7.turns hu8 (cptr_ne (by omega))
  have ht8 := ht7.turns hu8 (cptr_ne (by omega))
  have htr8 := htr7.turns hu8 (cptr_ne (by omega))
  have l8 := ht8.load (P := Try.prog) qagStr (off := 4) (c := 7) rfl (by simp)
  simp (config := { maxSteps := 1000000, implicitDefEqProofs := false }) (disch := omega) only [allW, allL, allB, Nat.sub_self, Nat.add_one_sub_one, Nat.reduceSub, cond_true, cond_false, oneOf, evalAll, partsA, optA, List.drop_zero, List.drop_succ_cons, List.cons_append, List.nil_append, Nat.reduceLT, Nat.reduceLeDiff, Nat.reduceEqDiff, Nat.reduceAdd, List.getD_cons_zero, List.getD_cons_succ, List.set_cons_zero, List.set_cons_succ, ↓reduceIte, if_true, if_false, beq_self_eq_true, ne_eq, eq_self, not_true_eq_false, not_false_eq_true, hn, h0, h1, h5, hf4, hlH, l8]
  refine (parts_any rfl t8 (four l 16)).mono ?_
  rintro _ _ ⟨rfl, rfl⟩
  refine ⟨fun _ => LA.StayA.refl _ _, ?_⟩
  simp (config := { maxSteps := 1000000, implicitDefEqProofs := false }) (disch := omega) only [allW, allL, allB, Nat.sub_self, Nat.add_one_sub_one, Nat.reduceSub, cond_true, cond_false, oneOf, evalAll, partsA, optA, List.drop_zero, List.drop_succ_cons, List.cons_append, List.nil_append, Nat.reduceLT, Nat.reduceLeDiff, Nat.reduceEqDiff, Nat.reduceAdd, List.getD_cons_zero, List.getD_cons_succ, List.set_cons_zero, List.set_cons_succ, ↓reduceIte, if_true, if_false, beq_self_eq_true, ne_eq, eq_self, not_true_eq_false, not_false_eq_true, hn, h0, h1, h5, hf1, hf2]
  refine LB.sstep_storeN szInt (by decide) ht8 (off := 1) (c := 7) rfl (vs := [.int .i64 ((l.getD 8 0).toNat : Int)]) rfl rfl (Nat.le_of_ble_eq_true rfl) rfl (fun h => absurd rfl h) ?_
  intro t9 ht9 hnx9 hot9
  simp (config := { maxSteps := 1000000, implicitDefEqProofs := false }) (disch := omega) only [allW, allL, allB, Nat.sub_self, Nat.add_one_sub_one, Nat.reduceSub, cond_true, cond_false, oneOf, evalAll, partsA, optA, List.drop_zero, List.drop_succ_cons, List.cons_append, List.nil_append, Nat.reduceLT, Nat.reduceLeDiff, Nat.reduceEqDiff, Nat.reduceAdd, List.getD_cons_zero, List.getD_cons_succ, List.set_cons_zero, List.set_cons_succ, ↓reduceIte, if_true, if_false, beq_self_eq_true, ne_eq, eq_self, not_true_eq_false, not_false_eq_true, hn, h0, h1, h5, hf1, hf2]
  refine LB.sstep_storeN szInt (by decide) ht9 (off := 2) (c := 7) rfl (vs := [.int .i64 (parts (four l 16) : Int)]) rfl rfl (Nat.le_of_ble_eq_true rfl) rfl (fun h => absurd rfl h) ?_
  intro ta hta hnxa hota
  have hta : Thing ta s2.next (headIs l) := hta
  have htba := (htb8.ofPut hnx9 hot9 (by omega)).ofPut hnxa hota (by omega)
  have htra := (htr8.ofPut hnx9 hot9 (by omega)).ofPut hnxa hota (by omega)
  have hca := (hc8.ofPut hnx9 hot9 (by omega) (by omega)).ofPut hnxa hota (by omega) (by omega)
  have hua := ((hu7'.trans hu8).put (by omega) hnx9 hot9).put (by omega) hnxa hota
  clear htb7 htb8 ht7 ht8 ht9 hc7 hc8 htr7 htr8 hot9 hota
  have la := Thing.loadAll (P := Try.prog) (cs := [cptr i]) agRd szRd htba (c := 2) rfl
  simp (config := { maxSteps := 1000000, implicitDefEqProofs := false }) (disch := omega) only [allW, allL, allB, Nat.sub_self, Nat.add_one_sub_one, Nat.reduceSub, cond_true, cond_false, oneOf, evalAll, partsA, optA, List.drop_zero, List.drop_succ_cons, List.cons_append, List.nil_append, Nat.reduceLT, Nat.reduceLeDiff, Nat.reduceEqDiff, Nat.reduceAdd, List.getD_cons_zero, List.getD_cons_succ, List.set_cons_zero, List.set_cons_succ, ↓reduceIte, if_true, if_false, beq_self_eq_true, ne_eq, eq_self, not_true_eq_false, not_false_eq_true, hn, h0, h1, h5, la, hself]
  refine (num_any rfl rfl rfl rfl rfl rfl rfl rfl base ta i l _ 128 hca (by omega) (by omega) hlen).mono ?_
  rintro _ tb ⟨rfl, hcb, hub⟩
  have hnb := hub.next
  have htbb := htba.turns hub (cptr_ne (by omega))
  have htb' := hta.turns hub (cptr_ne (by omega))
  have htrb := htra.turns hub (cptr_ne (by omega))
  have hub' := hua.trans hub
  clear htba hta htra hca hua
  simp (config := { maxSteps := 1000000, implicitDefEqProofs := false }) (disch := omega) only [allW, allL, allB, Nat.sub_self, Nat.add_one_sub_one, Nat.reduceSub, cond_true, cond_false, oneOf, evalAll, partsA, optA, List.drop_zero, List.drop_succ_cons, List.cons_append, List.nil_append, Nat.reduceLT, Nat.reduceLeDiff, Nat.reduceEqDiff, Nat.reduceAdd, List.getD_cons_zero, List.getD_cons_succ, List.set_cons_zero, List.set_cons_succ, ↓reduceIte, if_true, if_false, beq_self_eq_true, ne_eq, eq_self, not_true_eq_false, not_false_eq_true, hn, h0, h1, h2, h5, strs4]
  refine wstep_newSlice (by rfl) ?_
  intro xs tc hxs hFs hstc
  have hnc := hstc.next
  have htbc := htbb.keeps hstc
  have htc := htb'.keeps hstc
  have htrc := htrb.keeps hstc
  have hcc := hcb.keeps (by omega) hstc
  have huc : Turns (cptr i) s tc := hub'.trans ⟨hstc.next, fun j hj _ => hstc.get j hj⟩
  have lc := htc.load (P := Try.prog) qagStr (off := 3) (c := 7) rfl (by simp [headIs, headC])
  simp (config := { maxSteps := 1000000, implicitDefEqProofs := false }) (disch := omega) only [allW, allL, allB, Nat.sub_self, Nat.add_one_sub_one, Nat.reduceSub, cond_true, cond_false, oneOf, evalAll, partsA, optA, List.drop_zero, List.drop_succ_cons, List.cons_append, List.nil_append, Nat.reduceLT, Nat.reduceLeDiff, Nat.reduceEqDiff, Nat.reduceAdd, List.getD_cons_zero, List.getD_cons_succ, List.set_cons_zero, List.set_cons_succ, ↓reduceIte, if_true, if_false, beq_self_eq_true, ne_eq, eq_self, not_true_eq_false, not_false_eq_true, hn, h0, h1, h2, h5, hf3, lc, hxs.self]
  refine (scontains_any rfl rfl tc xs (four l 12) CLASSES hxs.sees (by decide)).mono ?_
  rintro _ td ⟨rfl, htd⟩
  rw [htd]; clear htd td
  obtain ⟨P1, hP1⟩ : ∃ v, v = Value.pointer (some ⟨s.next, 0, some 2⟩) := ⟨_, rfl⟩
  obtain ⟨P2, hP2⟩ : ∃ v, v = Value.pointer (some ⟨s1.next, 0, some 7⟩) := ⟨_, rfl⟩
  obtain ⟨P5, hP5⟩ : ∃ v, v = Value.pointer (some ⟨s2.next, 0, some 7⟩) := ⟨_, rfl⟩
  rw [← hP1] at h1; rw [← hP2] at h2; rw [← hP5] at h5
  refine wcall_cut (fun f' s' => s' = tc ∧ f'.n = 92 ∧ f'.get 1 = P1 ∧ f'.get 2 = P2 ∧ f'.get 5 = P5 ∧ f'.get 6 = .int .i64 (num l 128) ∧ f'.get 7 = .bool (decide (four l 12 ∈ CLASSES))) (by simp (config := { maxSteps := 1000000, implicitDefEqProofs := false }) (disch := omega) only [allW, allL, allB, Nat.sub_self, Nat.add_one_sub_one, Nat.reduceSub, cond_true, cond_false, oneOf, evalAll, partsA, optA, List.drop_zero, List.drop_succ_cons, List.cons_append, List.nil_append, Nat.reduceLT, Nat.reduceLeDiff, Nat.reduceEqDiff, Nat.reduceAdd, List.getD_cons_zero, List.getD_cons_succ, List.set_cons_zero, List.set_cons_succ, ↓reduceIte, if_true, if_false, beq_self_eq_true, ne_eq, eq_self, not_true_eq_false, not_false_eq_true, hn, h1, h2, h5]) ?_
  clear hn h0 h1 h2 h5 f
  rintro f td ⟨htd, hn, h1, h2, h5, h6, h7⟩
  rw [htd]; clear htd td
  rw [wthen_normal]
  -- the space of what it joins
  refine wseq_cut (fun f' s' => s' = tc ∧ f'.n = 92 ∧ f'.get 1 = P1 ∧ f'.get 2 = P2 ∧ f'.get 5 = P5 ∧ f'.get 6 = .int .i64 (num l 128) ∧ f'.get 7 = .bool (decide (four l 12 ∈ CLASSES)) ∧ f'.get 8 = .bool (decide (four l 20 = XYZ ∨ four l 20 = LAB))) ?_ ?_
  · have l5 := htc.load (P := Try.prog) qagStr (off := 5) (c := 7) rfl (by simp [headIs, headC])
    have l5' : (headIs l).getD 5 undef = .string ⟨(four l 20).toArray⟩ := rfl
    rw [l5'] at l5
    have e1 := str_eql (P := Try.prog) (t := 9) (four l 20) XYZ
    have e2 := str_eql (P := Try.prog) (t := 9) (four l 20) LAB
    obtain ⟨r, hr⟩ : ∃ r, r = decide (four l 20 = XYZ ∨ four l 20 = LAB) := ⟨_, rfl⟩
    rw [← hr]
    by_cases c1 : four l 20 = XYZ
    · have : r = true := by rw [hr]; exact decide_eq_true (.inl c1)
      subst this
      rw [decide_eq_true c1] at e1
      simp only [XYZ] at e1
      simp (config := { maxSteps := 1000000, implicitDefEqProofs := false }) (disch := omega) only [allW, allL, allB, Nat.sub_self, Nat.add_one_sub_one, Nat.reduceSub, cond_true, cond_false, oneOf, evalAll, partsA, optA, List.drop_zero, List.drop_succ_cons, List.cons_append, List.nil_append, Nat.reduceLT, Nat.reduceLeDiff, Nat.reduceEqDiff, Nat.reduceAdd, List.getD_cons_zero, List.getD_cons_succ, List.set_cons_zero, List.set_cons_succ, ↓reduceIte, if_true, if_false, beq_self_eq_true, ne_eq, eq_self, not_true_eq_false, not_false_eq_true, undef, hn, h1, h2, h5, h6, h7, hP5, hf5, l5, e1]
    · rw [decide_eq_false c1] at e1
      simp only [XYZ] at e1
      by_cases c2 : four l 20 = LAB
      · have : r = true := by rw [hr]; exact decide_eq_true (.inr c2)
        subst this
        rw [decide_eq_true c2] at e2
        simp only [LAB] at e2
        simp (config := { maxSteps := 1000000, implicitDefEqProofs := false }) (disch := omega) only [allW, allL, allB, Nat.sub_self, Nat.add_one_sub_one, Nat.reduceSub, cond_true, cond_false, oneOf, evalAll, partsA, optA, List.drop_zero, List.drop_succ_cons, List.cons_append, List.nil_append, Nat.reduceLT, Nat.reduceLeDiff, Nat.reduceEqDiff, Nat.reduceAdd, List.getD_cons_zero, List.getD_cons_succ, List.set_cons_zero, List.set_cons_succ, ↓reduceIte, if_true, if_false, beq_self_eq_true, ne_eq, eq_self, not_true_eq_false, not_false_eq_true, undef, hn, h1, h2, h5, h6, h7, hP5, hf5, l5, e1, e2]
      · have : r = false := by rw [hr]; exact decide_eq_false (fun h => h.elim c1 c2)
        subst this
        rw [decide_eq_false c2] at e2
        simp only [LAB] at e2
        simp (config := { maxSteps := 1000000, implicitDefEqProofs := false }) (disch := omega) only [allW, allL, allB, Nat.sub_self, Nat.add_one_sub_one, Nat.reduceSub, cond_true, cond_false, oneOf, evalAll, partsA, optA, List.drop_zero, List.drop_succ_cons, List.cons_append, List.nil_append, Nat.reduceLT, Nat.reduceLeDiff, Nat.reduceEqDiff, Nat.reduceAdd, List.getD_cons_zero, List.getD_cons_succ, List.set_cons_zero, List.set_cons_succ, ↓reduceIte, if_true, if_false, beq_self_eq_true, ne_eq, eq_self, not_true_eq_false, not_false_eq_true, undef, hn, h1, h2, h5, h6, h7, hP5, hf5, l5, e1, e2]
  clear hn h1 h2 h5 h6 h7 f
  rintro f td ⟨htd, hn, h1, h2, h5, h6, h7, h8⟩
  rw [htd]; clear htd td
  -- is it one
  refine wseq_cut (fun f' s' => f'.n = 92 ∧ f'.get 1 = P1 ∧ f'.get 2 = P2 ∧ f'.get 5 = P5 ∧ f'.get 6 = .int .i64 (num l 128) ∧ f'.get 9 = .bool (decide (okHead l)) ∧ Thing s' s.next [cptr i] ∧ Thing s' s1.next (headC 0 0 0 [] [] []) ∧ Thing s' s2.next (headIs l) ∧ tc.next ≤ s'.next ∧ (∃ p', CurIs base s' i l p') ∧ Turns (cptr i) s s') ?_ ?_
  · have lq1 : ∀ t, Thing t s2.next (headIs l) → loadA Try.prog t 3 (.pointer (some ⟨s2.next, 0, some 7⟩)) = some (.int .i64 (num l 0)) := fun t h => h.load agInt (off := 0) (c := 7) rfl (by simp [headIs, headC])
    have lq2 : ∀ t, Thing t s2.next (headIs l) → loadA Try.prog t 3 (.pointer (some ⟨s2.next, 1, some 7⟩)) = some (.int .i64 ((l.getD 8 0).toNat : Int)) := fun t h => h.load agInt (off := 1) (c := 7) rfl (by simp [headIs, headC])
    have lq3 : ∀ t, Thing t s2.next (headIs l) → loadA Try.prog t 3 (.pointer (some ⟨s2.next, 2, some 7⟩)) = some (.int .i64 (parts (four l 16))) := fun t h => h.load agInt (off := 2) (c := 7) rfl (by simp [headIs, headC])
    have lb := htbc.load (P := Try.prog) agCp (off := 0) (c := 2) rfl (by simp)
    have lball := Thing.loadAll (P := Try.prog) (cs := [cptr i]) agRd szRd htbc (c := 2) rfl
    simp only [allW, allL, allB, Nat.sub_self, Nat.add_one_sub_one, Nat.reduceSub, cond_true, cond_false, oneOf, evalAll, partsA, optA, List.drop_zero, List.drop_succ_cons, List.cons_append, List.nil_append, Nat.reduceLT, Nat.reduceLeDiff, Nat.reduceEqDiff, Nat.reduceAdd, List.getD_cons_zero, List.getD_cons_succ, List.set_cons_zero, List.set_cons_succ, ↓reduceIte, if_true, if_false, beq_self_eq_true, ne_eq, eq_self, not_true_eq_false, not_false_eq_true]
    refine LB.Drawn.looseK B (fun j h => Nat.lt_of_lt_of_le (hBl j h) (by omega)) 2 0 (by kernel_rfl) (by kernel_rfl) ?_
    rw [show spare tc 0 = tc from rfl]
    simp (config := { maxSteps := 1000000, implicitDefEqProofs := false }) (disch := omega) only [allW, allL, allB, Nat.sub_self, Nat.add_one_sub_one, Nat.reduceSub, cond_true, cond_false, oneOf, evalAll, partsA, optA, List.drop_zero, List.drop_succ_cons, List.cons_append, List.nil_append, Nat.reduceLT, Nat.reduceLeDiff, Nat.reduceEqDiff, Nat.reduceAdd, List.getD_cons_zero, List.getD_cons_succ, List.set_cons_zero, List.set_cons_succ, ↓reduceIte, if_true, if_false, beq_self_eq_true, ne_eq, eq_self, not_true_eq_false, not_false_eq_true, hn, h1, h2, h5, h6, h7, h8, hP1, hP5, hf0, hf1, hf2, rfld0, hlB, hlH, lq1 tc htc, lb, cptr_self]
    refine (len_any rfl base tc i l _ hcc).mono ?_
    rintro _ td ⟨rfl, htd⟩
    rw [htd]; clear htd td
    refine ⟨fun _ => LA.StayA.refl _ _, ?_⟩
    by_cases c1 : num l 0 = l.length
    rotate_left
    · have hbad : decide (okHead l) = false := decide_eq_false (fun h => c1 h.1)
      simp (config := { maxSteps := 1000000, implicitDefEqProofs := false }) (disch := omega) only [allW, allL, allB, Nat.sub_self, Nat.add_one_sub_one, Nat.reduceSub, cond_true, cond_false, oneOf, evalAll, partsA, optA, List.drop_zero, List.drop_succ_cons, List.cons_append, List.nil_append, Nat.reduceLT, Nat.reduceLeDiff, Nat.reduceEqDiff, Nat.reduceAdd, List.getD_cons_zero, List.getD_cons_succ, List.set_cons_zero, List.set_cons_succ, ↓reduceIte, if_true, if_false, beq_self_eq_true, ne_eq, eq_self, not_true_eq_false, not_false_eq_true, undef, hn, h1, h2, h5, h6, h7, h8, hP1, hP5, hf0, hf1, hf2, rfld0, hlB, hlH, lq2 tc htc, lq3 tc htc, eq_false c1, hbad]
      exact ⟨htbc, htrc, htc, Nat.le_refl _, ⟨_, hcc⟩, huc⟩
    by_cases c2 : (2 : Int) ≤ ((l.getD 8 0).toNat : Int)
    rotate_left
    · have hbad : decide (okHead l) = false := decide_eq_false (fun h => c2 (by have := h.2.1; omega))
      simp (config := { maxSteps := 1000000, implicitDefEqProofs := false }) (disch := omega) only [allW, allL, allB, Nat.sub_self, Nat.add_one_sub_one, Nat.reduceSub, cond_true, cond_false, oneOf, evalAll, partsA, optA, List.drop_zero, List.drop_succ_cons, List.cons_append, List.nil_append, Nat.reduceLT, Nat.reduceLeDiff, Nat.reduceEqDiff, Nat.reduceAdd, List.getD_cons_zero, List.getD_cons_succ, List.set_cons_zero, List.set_cons_succ, ↓reduceIte, if_true, if_false, beq_self_eq_true, ne_eq, eq_self, not_true_eq_false, not_false_eq_true, undef, hn, h1, h2, h5, h6, h7, h8, hP1, hP5, hf0, hf1, hf2, rfld0, hlB, hlH, lq2 tc htc, lq3 tc htc, eq_true c1, eq_false c2, hbad]
      exact ⟨htbc, htrc, htc, Nat.le_refl _, ⟨_, hcc⟩, huc⟩
    by_cases c3 : ((l.getD 8 0).toNat : Int) ≤ 4
    rotate_left
    · have hbad : decide (okHead l) = false := decide_eq_false (fun h => c3 (by have := h.2.2.1; omega))
      simp (config := { maxSteps := 1000000, implicitDefEqProofs := false }) (disch := omega) only [allW, allL, allB, Nat.sub_self, Nat.add_one_sub_one, Nat.reduceSub, cond_true, cond_false, oneOf, evalAll, partsA, optA, List.drop_zero, List.drop_succ_cons, List.cons_append, List.nil_append, Nat.reduceLT, Nat.reduceLeDiff, Nat.reduceEqDiff, Nat.reduceAdd, List.getD_cons_zero, List.getD_cons_succ, List.set_cons_zero, List.set_cons_succ, ↓reduceIte, if_true, if_false, beq_self_eq_true, ne_eq, eq_self, not_true_eq_false, not_false_eq_true, undef, hn, h1, h2, h5, h6, h7, h8, hP1, hP5, hf0, hf1, hf2, rfld0, hlB, hlH, lq2 tc htc, lq3 tc htc, eq_true c1, eq_true c2, eq_false c3, hbad]
      exact ⟨htbc, htrc, htc, Nat.le_refl _, ⟨_, hcc⟩, huc⟩
    by_cases c4 : four l 12 ∈ CLASSES
    rotate_left
    · have hbad : decide (okHead l) = false := decide_eq_false (fun h => c4 h.2.2.2.1)
      simp (config := { maxSteps := 1000000, implicitDefEqProofs := false }) (disch := omega) only [allW, allL, allB, Nat.sub_self, Nat.add_one_sub_one, Nat.reduceSub, cond_true, cond_false, oneOf, evalAll, partsA, optA, List.drop_zero, List.drop_succ_cons, List.cons_append, List.nil_append, Nat.reduceLT, Nat.reduceLeDiff, Nat.reduceEqDiff, Nat.reduceAdd, List.getD_cons_zero, List.getD_cons_succ, List.set_cons_zero, List.set_cons_succ, ↓reduceIte, if_true, if_false, beq_self_eq_true, ne_eq, eq_self, not_true_eq_false, not_false_eq_true, undef, hn, h1, h2, h5, h6, h7, h8, hP1, hP5, hf0, hf1, hf2, rfld0, hlB, hlH, lq2 tc htc, lq3 tc htc, eq_true c1, eq_true c2, eq_true c3, eq_false c4, hbad]
      exact ⟨htbc, htrc, htc, Nat.le_refl _, ⟨_, hcc⟩, huc⟩
    by_cases c5 : (0 : Int) < (parts (four l 16) : Int)
    rotate_left
    · have hbad : decide (okHead l) = false := decide_eq_false (fun h => c5 (by have := h.2.2.2.2.1; omega))
      simp (config := { maxSteps := 1000000, implicitDefEqProofs := false }) (disch := omega) only [allW, allL, allB, Nat.sub_self, Nat.add_one_sub_one, Nat.reduceSub, cond_true, cond_false, oneOf, evalAll, partsA, optA, List.drop_zero, List.drop_succ_cons, List.cons_append, List.nil_append, Nat.reduceLT, Nat.reduceLeDiff, Nat.reduceEqDiff, Nat.reduceAdd, List.getD_cons_zero, List.getD_cons_succ, List.set_cons_zero, List.set_cons_succ, ↓reduceIte, if_true, if_false, beq_self_eq_true, ne_eq, eq_self, not_true_eq_false, not_false_eq_true, undef, hn, h1, h2, h5, h6, h7, h8, hP1, hP5, hf0, hf1, hf2, rfld0, hlB, hlH, lq2 tc htc, lq3 tc htc, eq_true c1, eq_true c2, eq_true c3, eq_true c4, eq_false c5, hbad]
      exact ⟨htbc, htrc, htc, Nat.le_refl _, ⟨_, hcc⟩, huc⟩
    by_cases c6 : four l 20 = XYZ ∨ four l 20 = LAB
    rotate_left
    · have hbad : decide (okHead l) = false := decide_eq_false (fun h => c6 h.2.2.2.2.2.1)
      simp (config := { maxSteps := 1000000, implicitDefEqProofs := false }) (disch := omega) only [allW, allL, allB, Nat.sub_self, Nat.add_one_sub_one, Nat.reduceSub, cond_true, cond_false, oneOf, evalAll, partsA, optA, List.drop_zero, List.drop_succ_cons, List.cons_append, List.nil_append, Nat.reduceLT, Nat.reduceLeDiff, Nat.reduceEqDiff, Nat.reduceAdd, List.getD_cons_zero, List.getD_cons_succ, List.set_cons_zero, List.set_cons_succ, ↓reduceIte, if_true, if_false, beq_self_eq_true, ne_eq, eq_self, not_true_eq_false, not_false_eq_true, undef, hn, h1, h2, h5, h6, h7, h8, hP1, hP5, hf0, hf1, hf2, rfld0, hlB, hlH, lq2 tc htc, lq3 tc htc, eq_true c1, eq_true c2, eq_true c3, eq_true c4, eq_true c5, eq_false c6, hbad]
      exact ⟨htbc, htrc, htc, Nat.le_refl _, ⟨_, hcc⟩, huc⟩
    simp (config := { maxSteps := 1000000, implicitDefEqProofs := false }) (disch := omega) only [allW, allL, allB, Nat.sub_self, Nat.add_one_sub_one, Nat.reduceSub, cond_true, cond_false, oneOf, evalAll, partsA, optA, List.drop_zero, List.drop_succ_cons, List.cons_append, List.nil_append, Nat.reduceLT, Nat.reduceLeDiff, Nat.reduceEqDiff, Nat.reduceAdd, List.getD_cons_zero, List.getD_cons_succ, List.set_cons_zero, List.set_cons_succ, ↓reduceIte, if_true, if_false, beq_self_eq_true, ne_eq, eq_self, not_true_eq_false, not_false_eq_true, undef, hn, h1, h2, h5, h6, h7, h8, hP1, hP5, hf0, hf1, hf2, rfld0, hlB, hlH, lq2 tc htc, lq3 tc htc, eq_true c1, eq_true c2, eq_true c3, eq_true c4, eq_true c5, eq_true c6, lball, hself]
    refine (text_any rfl rfl rfl rfl rfl rfl rfl base tc i l _ 36 hcc (by omega) (by omega) hlen).mono ?_
    rintro _ td ⟨rfl, hcd, hud⟩
    refine ⟨fun _ => turnsA (n := tc.next) (fun j h => Nat.lt_of_lt_of_le (hBl j h) (by omega)) (by omega) hBi hud, ?_⟩
    have hnd := hud.next
    have e1 := str_eql (P := Try.prog) (t := 9) (four l 36) ACSP
    obtain ⟨r, hr⟩ : ∃ r, r = decide (okHead l) := ⟨_, rfl⟩
    have hr' : decide (four l 36 = ACSP) = r := by
      rw [hr]
      by_cases c7 : four l 36 = ACSP
      · rw [decide_eq_true c7, decide_eq_true ⟨c1, by omega, by omega, c4, by omega, c6, c7⟩]
      · rw [decide_eq_false c7, decide_eq_false (fun h => c7 h.2.2.2.2.2.2)]
    rw [hr'] at e1
    rw [← hr]
    simp only [ACSP] at e1
    simp (config := { maxSteps := 1000000, implicitDefEqProofs := false }) (disch := omega) only [allW, allL, allB, Nat.sub_self, Nat.add_one_sub_one, Nat.reduceSub, cond_true, cond_false, oneOf, evalAll, partsA, optA, List.drop_zero, List.drop_succ_cons, List.cons_append, List.nil_append, Nat.reduceLT, Nat.reduceLeDiff, Nat.reduceEqDiff, Nat.reduceAdd, List.getD_cons_zero, List.getD_cons_succ, List.set_cons_zero, List.set_cons_succ, ↓reduceIte, if_true, if_false, beq_self_eq_true, ne_eq, eq_self, not_true_eq_false, not_false_eq_true, undef, hn, h1, h2, h5, h6, h7, h8, hP1, hP5, e1]
    exact ⟨htbc.turns hud (cptr_ne (by omega)), htrc.turns hud (cptr_ne (by omega)), htc.turns hud (cptr_ne (by omega)), by omega, ⟨_, hcd⟩, huc.trans hud⟩
  clear hn h1 h2 h5 h6 h7 h8 f htbc htrc htc hcc huc
  rintro f te ⟨hn, h1, h2, h5, h6, h9, hte, htre, hthe, hne, ⟨p', hce⟩, hue⟩
  have le := Thing.loadAll (P := Try.prog) (cs := headIs l) agHead szHead hthe (c := 7) rfl
  have lb := hte.load (P := Try.prog) agCp (off := 0) (c := 2) rfl (by simp)
  have hvH : valEq (.agg (headIs l).toArray) (.agg (headIs l).toArray) = true := by simp [headIs, headC, valEq, valEqL, valEq1]
  have hmm : num l 128 < 4294967296 := by
    have := bigOf_lt (four l 128) 4 (four_length (by omega))
    exact this
  simp only [allW, allL, allB, Nat.sub_self, Nat.add_one_sub_one, Nat.reduceSub, cond_true, cond_false, oneOf, evalAll, partsA, optA, List.drop_zero, List.drop_succ_cons, List.cons_append, List.nil_append, Nat.reduceLT, Nat.reduceLeDiff, Nat.reduceEqDiff, Nat.reduceAdd, List.getD_cons_zero, List.getD_cons_succ, List.set_cons_zero, List.set_cons_succ, ↓reduceIte, if_true, if_false, beq_self_eq_true, ne_eq, eq_self, not_true_eq_false, not_false_eq_true]
  refine LB.Drawn.looseK B (fun j h => Nat.lt_of_lt_of_le (hBl j h) (by omega)) 1 0 (by kernel_rfl) (by kernel_rfl) ?_
  rw [show spare te 0 = te from rfl]
  have hfin : ∀ t8 f', Thing t8 s1.next (headIs l) → (∃ p', CurIs base t8 i l p') → Turns (cptr i) s t8 → f'.n = 92 → f'.get 2 = P2 → f'.get 3 = .int .i64 (num l 128) → f'.get 4 = .bool (decide (okHead l) && decide (okMany l)) → wthen Try.prog libN Code.ret (wfn Try.prog Try.f21.results.toList (Headed base s i l)) .normal f' t8 := by
    intro t8 f' h8 hc8 hu8 hn h2 h3 h4
    have l8 := Thing.loadAll (P := Try.prog) (cs := headIs l) agHead szHead h8 (c := 7) rfl
    simp (config := { maxSteps := 1000000, implicitDefEqProofs := false }) (disch := omega) only [allW, wfn_ret, wfn_normal, cond_true, cond_false, oneOf, evalAll, partsA, optA, List.drop_zero, List.drop_succ_cons, List.cons_append, List.nil_append, Nat.reduceLT, Nat.reduceLeDiff, Nat.reduceEqDiff, Nat.reduceAdd, List.getD_cons_zero, List.getD_cons_succ, List.set_cons_zero, List.set_cons_succ, ↓reduceIte, if_true, if_false, beq_self_eq_true, ne_eq, eq_self, not_true_eq_false, not_false_eq_true, hn, h2, h3, h4, hP2, l8, resultsA_cell, Try.results21]
    exact ⟨rfl, hc8, hu8⟩
  have hst : ∀ g j, B j = false → (g ≠ 0 → B j = false) := fun _ _ h _ => h
  have hB3 : B s1.next = false := by rw [hB]; simp; omega
  by_cases c1 : okHead l
  · rw [decide_eq_true c1] at h9
    by_cases c2 : (num l 128 : Int) ≤ 100
    · simp (config := { maxSteps := 1000000, implicitDefEqProofs := false }) (disch := omega) only [allW, allL, allB, Nat.sub_self, Nat.add_one_sub_one, Nat.reduceSub, cond_true, cond_false, oneOf, evalAll, partsA, optA, List.drop_zero, List.drop_succ_cons, List.cons_append, List.nil_append, Nat.reduceLT, Nat.reduceLeDiff, Nat.reduceEqDiff, Nat.reduceAdd, List.getD_cons_zero, List.getD_cons_succ, List.set_cons_zero, List.set_cons_succ, ↓reduceIte, if_true, if_false, beq_self_eq_true, ne_eq, eq_self, not_true_eq_false, not_false_eq_true, undef, hn, h1, h2, h5, h6, h9, hP1, hP2, hP5, rfld0, hlB, hlH, le, hvH, eq_true c2, lb, cptr_self, wrapI]
      refine (len_any rfl base te i l _ hce).mono ?_
      rintro _ td ⟨rfl, htd⟩
      rw [htd]; clear htd td
      refine ⟨fun _ => LA.StayA.refl _ _, ?_⟩
      have hm : (132 + 12 * (num l 128 : Int) ≤ (l.length : Int)) ↔ okMany l := ⟨fun h => ⟨by omega, by omega⟩, fun h => by have := h.2; omega⟩
      by_cases c3 : 132 + 12 * (num l 128 : Int) ≤ (l.length : Int)
      · have c4 := hm.mp c3
        simp (config := { maxSteps := 1000000, implicitDefEqProofs := false }) (disch := omega) only [allW, allL, allB, Nat.sub_self, Nat.add_one_sub_one, Nat.reduceSub, cond_true, cond_false, oneOf, evalAll, partsA, optA, List.drop_zero, List.drop_succ_cons, List.cons_append, List.nil_append, Nat.reduceLT, Nat.reduceLeDiff, Nat.reduceEqDiff, Nat.reduceAdd, List.getD_cons_zero, List.getD_cons_succ, List.set_cons_zero, List.set_cons_succ, ↓reduceIte, if_true, if_false, beq_self_eq_true, ne_eq, eq_self, not_true_eq_false, not_false_eq_true, undef, hn, h1, h2, h5, h6, h9, hP1, hP2, hP5, rfld0, hlB, hlH, eq_true c3]
        refine LB.sstep_storeAll szHead (by decide) htre rfl rfl rfl rfl (fun _ => hB3) ?_
        intro t8 ht8 hnx8 hot8
        simp (config := { maxSteps := 1000000, implicitDefEqProofs := false }) (disch := omega) only [allW, allL, allB, Nat.sub_self, Nat.add_one_sub_one, Nat.reduceSub, cond_true, cond_false, oneOf, evalAll, partsA, optA, List.drop_zero, List.drop_succ_cons, List.cons_append, List.nil_append, Nat.reduceLT, Nat.reduceLeDiff, Nat.reduceEqDiff, Nat.reduceAdd, List.getD_cons_zero, List.getD_cons_succ, List.set_cons_zero, List.set_cons_succ, ↓reduceIte, if_true, if_false, beq_self_eq_true, ne_eq, eq_self, not_true_eq_false, not_false_eq_true, undef, hn, h1, h2, h5, h6, h9, hP1, hP2, hP5]
        refine hfin t8 _ ht8 ⟨_, hce.ofPut hnx8 hot8 (by omega) (by omega)⟩ (hue.put (by omega) hnx8 hot8) ?_ ?_ ?_ ?_
        all_goals simp (config := { maxSteps := 1000000, implicitDefEqProofs := false }) (disch := omega) only [get_put, n_put, ↓reduceIte, Nat.reduceEqDiff, hn, h2, hP2, c1, c4, Bool.true_and, decide_true]
      · have c4 : ¬ okMany l := fun h => c3 (hm.mpr h)
        simp (config := { maxSteps := 1000000, implicitDefEqProofs := false }) (disch := omega) only [allW, allL, allB, Nat.sub_self, Nat.add_one_sub_one, Nat.reduceSub, cond_true, cond_false, oneOf, evalAll, partsA, optA, List.drop_zero, List.drop_succ_cons, List.cons_append, List.nil_append, Nat.reduceLT, Nat.reduceLeDiff, Nat.reduceEqDiff, Nat.reduceAdd, List.getD_cons_zero, List.getD_cons_succ, List.set_cons_zero, List.set_cons_succ, ↓reduceIte, if_true, if_false, beq_self_eq_true, ne_eq, eq_self, not_true_eq_false, not_false_eq_true, undef, hn, h1, h2, h5, h6, h9, hP1, hP2, hP5, rfld0, hlB, hlH, eq_false c3]
        refine LB.sstep_storeAll szHead (by decide) htre rfl rfl rfl rfl (fun _ => hB3) ?_
        intro t8 ht8 hnx8 hot8
        simp (config := { maxSteps := 1000000, implicitDefEqProofs := false }) (disch := omega) only [allW, allL, allB, Nat.sub_self, Nat.add_one_sub_one, Nat.reduceSub, cond_true, cond_false, oneOf, evalAll, partsA, optA, List.drop_zero, List.drop_succ_cons, List.cons_append, List.nil_append, Nat.reduceLT, Nat.reduceLeDiff, Nat.reduceEqDiff, Nat.reduceAdd, List.getD_cons_zero, List.getD_cons_succ, List.set_cons_zero, List.set_cons_succ, ↓reduceIte, if_true, if_false, beq_self_eq_true, ne_eq, eq_self, not_true_eq_false, not_false_eq_true, undef, hn, h1, h2, h5, h6, h9, hP1, hP2, hP5]
        refine hfin t8 _ ht8 ⟨_, hce.ofPut hnx8 hot8 (by omega) (by omega)⟩ (hue.put (by omega) hnx8 hot8) ?_ ?_ ?_ ?_
        all_goals simp (config := { maxSteps := 1000000, implicitDefEqProofs := false }) (disch := omega) only [get_put, n_put, ↓reduceIte, Nat.reduceEqDiff, hn, h2, hP2, c1, c4, Bool.true_and, decide_true, decide_false]
    · have hb : ¬ okMany l := fun h => c2 (by have := h.1; omega)
      simp (config := { maxSteps := 1000000, implicitDefEqProofs := false }) (disch := omega) only [allW, allL, allB, Nat.sub_self, Nat.add_one_sub_one, Nat.reduceSub, cond_true, cond_false, oneOf, evalAll, partsA, optA, List.drop_zero, List.drop_succ_cons, List.cons_append, List.nil_append, Nat.reduceLT, Nat.reduceLeDiff, Nat.reduceEqDiff, Nat.reduceAdd, List.getD_cons_zero, List.getD_cons_succ, List.set_cons_zero, List.set_cons_succ, ↓reduceIte, if_true, if_false, beq_self_eq_true, ne_eq, eq_self, not_true_eq_false, not_false_eq_true, undef, hn, h1, h2, h5, h6, h9, hP1, hP2, hP5, rfld0, hlB, hlH, le, hvH, eq_false c2]
      refine LB.sstep_storeAll szHead (by decide) htre rfl rfl rfl rfl (fun _ => hB3) ?_
      intro t8 ht8 hnx8 hot8
      simp (config := { maxSteps := 1000000, implicitDefEqProofs := false }) (disch := omega) only [allW, allL, allB, Nat.sub_self, Nat.add_one_sub_one, Nat.reduceSub, cond_true, cond_false, oneOf, evalAll, partsA, optA, List.drop_zero, List.drop_succ_cons, List.cons_append, List.nil_append, Nat.reduceLT, Nat.reduceLeDiff, Nat.reduceEqDiff, Nat.reduceAdd, List.getD_cons_zero, List.getD_cons_succ, List.set_cons_zero, List.set_cons_succ, ↓reduceIte, if_true, if_false, beq_self_eq_true, ne_eq, eq_self, not_true_eq_false, not_false_eq_true, undef, hn, h1, h2, h5, h6, h9, hP1, hP2, hP5]
      refine hfin t8 _ ht8 ⟨_, hce.ofPut hnx8 hot8 (by omega) (by omega)⟩ (hue.put (by omega) hnx8 hot8) ?_ ?_ ?_ ?_
      all_goals simp (config := { maxSteps := 1000000, implicitDefEqProofs := false }) (disch := omega) only [get_put, n_put, ↓reduceIte, Nat.reduceEqDiff, hn, h2, hP2, c1, hb, Bool.true_and, decide_true, decide_false]
  · rw [decide_eq_false c1] at h9
    simp (config := { maxSteps := 1000000, implicitDefEqProofs := false }) (disch := omega) only [allW, allL, allB, Nat.sub_self, Nat.add_one_sub_one, Nat.reduceSub, cond_true, cond_false, oneOf, evalAll, partsA, optA, List.drop_zero, List.drop_succ_cons, List.cons_append, List.nil_append, Nat.reduceLT, Nat.reduceLeDiff, Nat.reduceEqDiff, Nat.reduceAdd, List.getD_cons_zero, List.getD_cons_succ, List.set_cons_zero, List.set_cons_succ, ↓reduceIte, if_true, if_false, beq_self_eq_true, ne_eq, eq_self, not_true_eq_false, not_false_eq_true, undef, hn, h1, h2, h5, h6, h9, hP1, hP2, hP5, rfld0, hlB, hlH, le, hvH]
    refine LB.sstep_storeAll szHead (by decide) htre rfl rfl rfl rfl (fun _ => hB3) ?_
    intro t8 ht8 hnx8 hot8
    simp (config := { maxSteps := 1000000, implicitDefEqProofs := false }) (disch := omega) only [allW, allL, allB, Nat.sub_self, Nat.add_one_sub_one, Nat.reduceSub, cond_true, cond_false, oneOf, evalAll, partsA, optA, List.drop_zero, List.drop_succ_cons, List.cons_append, List.nil_append, Nat.reduceLT, Nat.reduceLeDiff, Nat.reduceEqDiff, Nat.reduceAdd, List.getD_cons_zero, List.getD_cons_succ, List.set_cons_zero, List.set_cons_succ, ↓reduceIte, if_true, if_false, beq_self_eq_true, ne_eq, eq_self, not_true_eq_false, not_false_eq_true, undef, hn, h1, h2, h5, h6, h9, hP1, hP2, hP5]
    refine hfin t8 _ ht8 ⟨_, hce.ofPut hnx8 hot8 (by omega) (by omega)⟩ (hue.put (by omega) hnx8 hot8) ?_ ?_ ?_ ?_
    all_goals simp (config := { maxSteps := 1000000, implicitDefEqProofs := false }) (disch := omega) only [get_put, n_put, ↓reduceIte, Nat.reduceEqDiff, hn, h2, hP2, c1, Bool.false_and, decide_false]
end Go.Proofs.Ytbakljlaladpoaa
