/-
  Profiles: the program's tags.
-/
import Derived.Test.YtbakljlaladpoaaIccH
set_option linter.unusedSimpArgs false
set_option linter.unusedVariables false
namespace Go.Cl.Icc
/-- The tag in a row. -/
def tagAt (l : List UInt8) (i : Nat) : List UInt8 × Int × Int := (four l (132 + 12 * i), (num l (132 + 12 * i + 4) : Int), (num l (132 + 12 * i + 8) : Int))
def okTag (l : List UInt8) (many : Nat) (T : List (List UInt8 × Int × Int)) (t : List UInt8 × Int × Int) : Prop := 132 + 12 * (many : Int) ≤ t.2.1 ∧ t.2.1 ≤ l.length ∧ t.2.2 ≤ l.length - t.2.1 ∧ (T.any fun u => decide (u.1 = t.1)) = false
instance (l : List UInt8) (many : Nat) (T : List (List UInt8 × Int × Int)) (t : List UInt8 × Int × Int) : Decidable (okTag l many T t) := by unfold okTag; infer_instance
/-- The first so many tags, if they may be. -/
def tagsTo (l : List UInt8) (many : Nat) : Nat → Option (List (List UInt8 × Int × Int))
  | 0 => some []
  | i + 1 =>
    match tagsTo l many i with
    | some T => if okTag l many T (tagAt l i) then some (T ++ [tagAt l i]) else none
    | none => none
theorem tagsTo_next {l : List UInt8} {many i : Nat} {T : List (List UInt8 × Int × Int)} (h : tagsTo l many i = some T) (k : okTag l many T (tagAt l i)) : tagsTo l many (i + 1) = some (T ++ [tagAt l i]) := by
  simp only [tagsTo, h, if_pos k]
theorem tagsTo_bad {l : List UInt8} {many i : Nat} {T : List (List UInt8 × Int × Int)} (h : tagsTo l many i = some T) (k : ¬ okTag l many T (tagAt l i)) : ∀ j, i < j → tagsTo l many j = none := by
  intro j
  induction j with
  | zero => intro h; omega
  | succ j ih =>
    intro hj
    by_cases hij : i = j
    · subst hij; simp only [tagsTo, h, if_neg k]
    · simp only [tagsTo, ih (by omega)]
theorem tagsTo_length {l : List UInt8} {many : Nat} : ∀ {i : Nat} {T : List (List UInt8 × Int × Int)}, tagsTo l many i = some T → T.length = i := by
  intro i
  induction i with
  | zero => intro T h; simp only [tagsTo] at h; injection h with h; subst h; rfl
  | succ i ih =>
    intro T h
    simp only [tagsTo] at h
    split at h
    · rename_i T' h'
      split at h
      · injection h with h; subst h; simp [ih h']
      · cases h
    · cases h
end Go.Cl.Icc
namespace Go.Proofs.Ytbakljlaladpoaa
open Go.Cl Go.Cl.Icc
theorem bTag (a : List UInt8) (x y : Int) : buildA Try.prog 35 [(0, .string ⟨a.toArray⟩), (1, .int .i64 x), (2, .int .i64 y)] = some (.agg (tagC (a, x, y)).toArray) := by
  unfold buildA; rw [Try.underlying35]
  have hz : zeroB Try.prog 35 = some (.agg #[.string ⟨#[]⟩, .int .i64 0, .int .i64 0]) := by kernel_rfl
  rw [hz]
  have ci : ∀ k n, (Value.int k n).cells = #[.int k n] := fun _ _ => rfl
  have cs : ∀ b, (Value.string b).cells = #[.string b] := fun _ => rfl
  simp [szInt, qszStr, plainV, plain1, fillA, placeOf, cells_agg, setAt, ci, cs, tagC]
theorem byTag : bytesB Try.prog 35 = some 32 := by kernel_rfl
theorem zTag : zeroB Try.prog 35 = some (.agg (tagC ([], 0, 0)).toArray) := by kernel_rfl
theorem plTag : plainV (.agg (tagC ([], 0, 0)).toArray) = true := by kernel_rfl
theorem tfld1 (i o c : Nat) : fieldAddrA Try.prog 35 (.pointer (some ⟨i, o, some c⟩)) 1 = some (.pointer (some ⟨i, o + 1, some c⟩)) := by
  unfold fieldAddrA; rw [Try.underlying35]; simp [szInt, qszStr]
theorem tfld2 (i o c : Nat) : fieldAddrA Try.prog 35 (.pointer (some ⟨i, o, some c⟩)) 2 = some (.pointer (some ⟨i, o + 2, some c⟩)) := by
  unfold fieldAddrA; rw [Try.underlying35]; simp [szInt, qszStr]
def Tagged (base : Nat) (s : ASt) (c : Nat) (l : List UInt8) (many : Nat) (v : Value) (s' : ASt) : Prop :=
  (∃ x b, v = .tuple #[x, .bool b] ∧ match tagsTo l many many with
    | some T => b = true ∧ Own s' 3 x T.length (tagsC T) ∧ Fresh s.next x
    | none => b = false ∧ x = .slice none 0 0) ∧ (∃ p', CurIs base s' c l p') ∧ Turns (cptr c) s s'
set_option maxHeartbeats 8000000 in
theorem tags_any (base : Nat) (s : ASt) (c : Nat) (l : List UInt8) (p many : Nat) (hc : CurIs base s c l p) (hb : base ≤ s.next) (hk : 132 + 12 * many ≤ l.length) (hlen : l.length ≤ 100000000) :
    Runs Try.prog libN 22 [.agg #[cptr c], .int .i64 (many : Nat)] s (Tagged base s c l many) := by
  refine Runs.enter 68 Try.func22 rfl rfl rfl rfl ?_
  intro f hn hf
  have h0 : f.get 0 = .agg #[cptr c] := hf 0
  have h1 : f.get 1 = .int .i64 (many : Nat) := hf 1
  clear hf
  have hid : c < s.next := by obtain ⟨b, ht, _⟩ := hc; exact ht.lt
  simp (config := { maxSteps := 1000000, implicitDefEqProofs := false }) (disch := omega) only [allW, cond_true, cond_false, oneOf, evalAll, partsA, optA, List.drop_zero, List.drop_succ_cons, List.cons_append, List.nil_append, Nat.reduceLT, Nat.reduceLeDiff, Nat.reduceEqDiff, Nat.reduceAdd, List.getD_cons_zero, List.getD_cons_succ, List.set_cons_zero, List.set_cons_succ, ↓reduceIte, if_true, if_false, beq_self_eq_true, ne_eq, eq_self, not_true_eq_false, not_false_eq_true, hn, h0, h1]
  refine wstep_newPtr ?_
  intro s1 ht1 hst1 hnx1
  obtain ⟨E, hE⟩ : ∃ E : Int, E = 132 + 12 * (many : Int) := ⟨_, rfl⟩
  simp (config := { maxSteps := 1000000, implicitDefEqProofs := false }) (disch := omega) only [allW, cond_true, cond_false, oneOf, evalAll, partsA, optA, List.drop_zero, List.drop_succ_cons, List.cons_append, List.nil_append, Nat.reduceLT, Nat.reduceLeDiff, Nat.reduceEqDiff, Nat.reduceAdd, List.getD_cons_zero, List.getD_cons_succ, List.set_cons_zero, List.set_cons_succ, ↓reduceIte, if_true, if_false, beq_self_eq_true, ne_eq, eq_self, not_true_eq_false, not_false_eq_true, hn, h0, h1, List.length_cons, List.length_nil, wrapI]
  refine Comes.loopAt (fun z f s2 => ∃ (i : Nat) (T : List (List UInt8 × Int × Int)) (x : Value), z = many - i ∧ i ≤ many ∧ tagsTo l many i = some T ∧ Own s2 3 x T.length (tagsC T) ∧ Fresh s1.next x ∧ Thing s2 s.next [cptr c] ∧ (∃ p', CurIs base s2 c l p') ∧ Turns (cptr c) s s2 ∧ s1.next ≤ s2.next ∧ f.n = 68 ∧ f.get 2 = .pointer (some ⟨s.next, 0, some 2⟩) ∧ f.get 4 = .slice none 0 0 ∧ f.get 5 = .bool false ∧ f.get 6 = x ∧ f.get 7 = .int .i64 (132 + 12 * (many : Int)) ∧ f.get 14 = .int .i64 (many : Nat) ∧ f.get 15 = .int .i64 (i : Nat))
    ⟨0, [], .slice none 0 0, rfl, by omega, rfl, .nil, Fresh.nil _, ht1, ⟨_, hc.keeps hb hst1⟩, ⟨hst1.next, fun j hj _ => hst1.get j hj⟩, Nat.le_refl _, by simp only [get_put, n_put, ↓reduceIte, Nat.reduceEqDiff, hn], by simp only [get_put, n_put, ↓reduceIte, Nat.reduceEqDiff], by simp only [get_put, n_put, ↓reduceIte, Nat.reduceEqDiff], by simp only [get_put, n_put, ↓reduceIte, Nat.reduceEqDiff], by simp only [get_put, n_put, ↓reduceIte, Nat.reduceEqDiff], by simp only [get_put, n_put, ↓reduceIte, Nat.reduceEqDiff], by simp only [get_put, n_put, ↓reduceIte, Nat.reduceEqDiff, h1], by simp only [get_put, n_put, ↓reduceIte, Nat.reduceEqDiff]; rfl⟩ ?_
  clear hn h0 h1 f ht1
  rintro z f s2 ⟨i, T, x, rfl, hi, hT, hx, hxF, htb, ⟨p1, hcb⟩, hu, hn1, hn, h2, h4, h5, h6, h7, h14, h15⟩
  by_cases hlt : i < many
  · have d1 : (i : Int) < (many : Int) := by omega
    have h1 : (1 : Nat) = 1 := rfl
    have h9 : (1 : Nat) = 1 := rfl
    simp (config := { maxSteps := 1000000, implicitDefEqProofs := false }) (disch := omega) only [allW, allL, allB, Nat.sub_self, Nat.add_one_sub_one, Nat.reduceSub, cond_true, cond_false, oneOf, evalAll, partsA, optA, List.drop_zero, List.drop_succ_cons, List.cons_append, List.nil_append, Nat.reduceLT, Nat.reduceLeDiff, Nat.reduceEqDiff, Nat.reduceAdd, List.getD_cons_zero, List.getD_cons_succ, List.set_cons_zero, List.set_cons_succ, ↓reduceIte, if_true, if_false, beq_self_eq_true, ne_eq, eq_self, not_true_eq_false, not_false_eq_true, hn, h2, h4, h5, h6, h7, h14, h15, eq_true d1, wrapI]
    obtain ⟨A, hA⟩ : ∃ A : Nat → Bool, A = fun j => decide (j = s.next) := ⟨_, rfl⟩
    have hAl : ∀ j, A j = true → j < s2.next := by
      intro j h
      rw [hA] at h
      have := of_decide_eq_true h
      omega
    refine LB.Drawn.looseK A hAl 5 1 (by kernel_rfl) (by kernel_rfl) ?_
    have hAi : A c = false := by rw [hA]; exact decide_eq_false (by omega)
    have hsp := Stay.spare s2 1
    have htb0 := htb.keeps hsp
    have hcb0 := hcb.keeps (by omega) hsp
    have hAb : A s.next = true := by rw [hA]; exact decide_eq_true rfl
    have hlow : LA.lowV A (some (.pointer (some ⟨s.next, 0, some 2⟩))) = true := LA.lowV_ptr (A := A) (i := s.next) hAb
    have l0 := Thing.loadAll (P := Try.prog) (cs := [cptr c]) agRd szRd htb0 (c := 2) rfl
    have hself : valEq (.agg #[cptr c]) (.agg #[cptr c]) = true := by simp [valEq, valEqL, valEq1, cptr]
    have hnT : (spare s2 1).next = s2.next + 1 := spare_next _ _
    have k0 : 132 + 12 * (i : Int) = ((132 + 12 * i : Nat) : Int) := by omega
    have k4 : ((132 + 12 * i : Nat) : Int) + 4 = ((132 + 12 * i + 4 : Nat) : Int) := by omega
    have k8 : ((132 + 12 * i : Nat) : Int) + 8 = ((132 + 12 * i + 8 : Nat) : Int) := by omega
    simp (config := { maxSteps := 1000000, implicitDefEqProofs := false }) (disch := omega) only [allW, allL, allB, Nat.sub_self, Nat.add_one_sub_one, Nat.reduceSub, cond_true, cond_false, oneOf, evalAll, partsA, optA, List.drop_zero, List.drop_succ_cons, List.cons_append, List.nil_append, Nat.reduceLT, Nat.reduceLeDiff, Nat.reduceEqDiff, Nat.reduceAdd, List.getD_cons_zero, List.getD_cons_succ, List.set_cons_zero, List.set_cons_succ, ↓reduceIte, if_true, if_false, beq_self_eq_true, ne_eq, eq_self, not_true_eq_false, not_false_eq_true, hn, h2, h4, h5, h6, h7, h14, h15, hlow, l0, hself, k0]
    refine (text_any rfl rfl rfl rfl rfl rfl rfl base (spare s2 1) c l p1 (132 + 12 * i) hcb0 (by omega) (by omega) hlen).mono ?_
    rintro _ t1 ⟨rfl, hct1, hut1⟩
    refine ⟨fun _ => turnsA (n := s2.next) hAl (by omega) hAi hut1, ?_⟩
    have htbt1 := (htb0).turns hut1 (cptr_ne (by omega))
    have l0t1 := Thing.loadAll (P := Try.prog) (cs := [cptr c]) agRd szRd htbt1 (c := 2) rfl
    have hnt1 := (hut1).next
    simp (config := { maxSteps := 1000000, implicitDefEqProofs := false }) (disch := omega) only [allW, allL, allB, Nat.sub_self, Nat.add_one_sub_one, Nat.reduceSub, cond_true, cond_false, oneOf, evalAll, partsA, optA, List.drop_zero, List.drop_succ_cons, List.cons_append, List.nil_append, Nat.reduceLT, Nat.reduceLeDiff, Nat.reduceEqDiff, Nat.reduceAdd, List.getD_cons_zero, List.getD_cons_succ, List.set_cons_zero, List.set_cons_succ, ↓reduceIte, if_true, if_false, beq_self_eq_true, ne_eq, eq_self, not_true_eq_false, not_false_eq_true, hn, h1, h2, h4, h5, h6, h7, h9, h14, h15, hlow, l0t1, hself, wrapI, k4]
    refine (num_any rfl rfl rfl rfl rfl rfl rfl rfl base t1 c l _ _ hct1 (by omega) (by omega) hlen).mono ?_
    rintro _ t2 ⟨rfl, hct2, hut2⟩
    refine ⟨fun _ => turnsA (n := s2.next) hAl (by omega) hAi hut2, ?_⟩
    have htbt2 := (htbt1).turns hut2 (cptr_ne (by omega))
    have l0t2 := Thing.loadAll (P := Try.prog) (cs := [cptr c]) agRd szRd htbt2 (c := 2) rfl
    have hnt2 := (hut2).next
    simp (config := { maxSteps := 1000000, implicitDefEqProofs := false }) (disch := omega) only [allW, allL, allB, Nat.sub_self, Nat.add_one_sub_one, Nat.reduceSub, cond_true, cond_false, oneOf, evalAll, partsA, optA, List.drop_zero, List.drop_succ_cons, List.cons_append, List.nil_append, Nat.reduceLT, Nat.reduceLeDiff, Nat.reduceEqDiff, Nat.reduceAdd, List.getD_cons_zero, List.getD_cons_succ, List.set_cons_zero, List.set_cons_succ, ↓reduceIte, if_true, if_false, beq_self_eq_true, ne_eq, eq_self, not_true_eq_false, not_false_eq_true, hn, h1, h2, h4, h5, h6, h7, h9, h14, h15, hlow, l0t2, hself, wrapI, k8]
    refine (num_any rfl rfl rfl rfl rfl rfl rfl rfl base t2 c l _ _ hct2 (by omega) (by omega) hlen).mono ?_
    rintro _ t3 ⟨rfl, hct3, hut3⟩
    refine ⟨fun _ => turnsA (n := s2.next) hAl (by omega) hAi hut3, ?_⟩
    have hvT : ∀ t, valEq (.agg (tagC t).toArray) (.agg (tagC t).toArray) = true := fun t => by simp [valEq, valEqL, valEq1, tagC]
    have hd4 : (tagC ([], 0, 0)).length + 1 = 4 := rfl
    have hn3 := hut3.next
    simp (config := { maxSteps := 1000000, implicitDefEqProofs := false }) (disch := omega) only [allW, allL, allB, Nat.sub_self, Nat.add_one_sub_one, Nat.reduceSub, cond_true, cond_false, oneOf, evalAll, partsA, optA, List.drop_zero, List.drop_succ_cons, List.cons_append, List.nil_append, Nat.reduceLT, Nat.reduceLeDiff, Nat.reduceEqDiff, Nat.reduceAdd, List.getD_cons_zero, List.getD_cons_succ, List.set_cons_zero, List.set_cons_succ, ↓reduceIte, if_true, if_false, beq_self_eq_true, ne_eq, eq_self, not_true_eq_false, not_false_eq_true, hn, h2, h4, h5, h6, h7, h14, h15, bTag, hvT, zTag, plTag]
    refine LB.smake_newPtr (by omega) ?_
    intro t4 ht4 hnx4 hot4
    simp (config := { maxSteps := 1000000, implicitDefEqProofs := false }) (disch := omega) only [allW, allL, allB, Nat.sub_self, Nat.add_one_sub_one, Nat.reduceSub, cond_true, cond_false, oneOf, evalAll, partsA, optA, List.drop_zero, List.drop_succ_cons, List.cons_append, List.nil_append, Nat.reduceLT, Nat.reduceLeDiff, Nat.reduceEqDiff, Nat.reduceAdd, List.getD_cons_zero, List.getD_cons_succ, List.set_cons_zero, List.set_cons_succ, ↓reduceIte, if_true, if_false, beq_self_eq_true, ne_eq, eq_self, not_true_eq_false, not_false_eq_true, hn, hd4]
    refine LB.sstep_storeAll szTag (by decide) ht4 rfl rfl rfl rfl (fun _ => by rw [hA]; exact decide_eq_false (by omega)) ?_
    intro t5 ht5 hnx5 hot5
    have htb5 := ((htbt2.turns hut3 (cptr_ne (by omega))).ofPut hnx4 hot4 (by omega)).ofPut hnx5 hot5 (by omega)
    have hc5 := (hct3.ofPut hnx4 hot4 (by omega) (by omega)).ofPut hnx5 hot5 (by omega) (by omega)
    have hu25 : Turns (cptr c) s2 t5 := ((((Turns.after hsp hut1).trans hut2).trans hut3).put (by omega) hnx4 hot4).put (by omega) hnx5 hot5
    have hx5 : Own t5 3 x T.length (tagsC T) := hx.turns hu25 (fun j hj => cptr_ne (by have := hxF j hj; omega))
    have hu5 := hu.trans hu25
    have ht5 : Thing t5 s2.next (tagC (tagAt l i)) := ht5
    clear htb0 htbt1 htbt2 l0 l0t1 l0t2 hct1 hct2 hct3 hut1 hut2 hut3 ht4 hot4 hot5 hcb0 hcb htb
    obtain ⟨B, hB⟩ : ∃ B : Nat → Bool, B = fun j => decide (j = s.next) || decide (j = s2.next) := ⟨_, rfl⟩
    have hBl : ∀ j, B j = true → j < t5.next := by
      intro j h
      rw [hB] at h
      have : j = s.next ∨ j = s2.next := by simpa using h
      omega
    have hB1 : B s.next = true := by rw [hB]; simp
    have hB2 : B s2.next = true := by rw [hB]; simp
    have hlB : LA.lowV B (some (.pointer (some ⟨s.next, 0, some 2⟩))) = true := LA.lowV_ptr (A := B) (i := s.next) hB1
    have hlT : ∀ k, LA.lowV B (some (.pointer (some ⟨s2.next, k, some 4⟩))) = true := fun k => LA.lowV_ptr (A := B) (i := s2.next) hB2
    have m1 : num l (132 + 12 * i + 4) < 4294967296 := bigOf_lt (four l (132 + 12 * i + 4)) 4 (four_length (by omega))
    have m2 : num l (132 + 12 * i + 8) < 4294967296 := bigOf_lt (four l (132 + 12 * i + 8)) 4 (four_length (by omega))
    obtain ⟨at', hat⟩ : ∃ a, a = num l (132 + 12 * i + 4) := ⟨_, rfl⟩
    obtain ⟨sz', hsz⟩ : ∃ a, a = num l (132 + 12 * i + 8) := ⟨_, rfl⟩
    obtain ⟨nm, hnm⟩ : ∃ a, a = four l (132 + 12 * i) := ⟨_, rfl⟩
    have htA : tagAt l i = (nm, (at' : Int), (sz' : Int)) := by rw [hat, hsz, hnm]; rfl
    rw [← hat] at m1
    rw [← hsz] at m2
    have lt0 := ht5.load (P := Try.prog) qagStr (off := 0) (c := 4) rfl (by simp [tagC])
    have lt1 := ht5.load (P := Try.prog) agInt (off := 1) (c := 4) rfl (by simp [tagC])
    have lt2 := ht5.load (P := Try.prog) agInt (off := 2) (c := 4) rfl (by simp [tagC])
    rw [htA] at lt0 lt1 lt2
    simp only [tagC, get_put, n_put, ↓reduceIte, Nat.reduceEqDiff, List.getD_cons_zero, List.getD_cons_succ] at lt0 lt1 lt2
    have lb5 := htb5.load (P := Try.prog) agCp (off := 0) (c := 2) rfl (by simp)
    simp only [allW, allL, allB, Nat.sub_self, Nat.add_one_sub_one, Nat.reduceSub, cond_true, cond_false, oneOf, evalAll, partsA, optA, List.drop_zero, List.drop_succ_cons, List.cons_append, List.nil_append, Nat.reduceLT, Nat.reduceLeDiff, Nat.reduceEqDiff, Nat.reduceAdd, List.getD_cons_zero, List.getD_cons_succ, List.set_cons_zero, List.set_cons_succ, ↓reduceIte, if_true, if_false, beq_self_eq_true, ne_eq, eq_self, not_true_eq_false, not_false_eq_true]
    refine wdraw_cut (fun f' s' => Stay t5.next t5 s' ∧ f'.n = 68 ∧ f'.get 2 = .pointer (some ⟨s.next, 0, some 2⟩) ∧ f'.get 4 = .slice none 0 0 ∧ f'.get 5 = .bool false ∧ f'.get 6 = x ∧ f'.get 7 = .int .i64 (132 + 12 * (many : Int)) ∧ f'.get 10 = .pointer (some ⟨s2.next, 0, some 4⟩) ∧ f'.get 14 = .int .i64 (many : Nat) ∧ f'.get 15 = .int .i64 (i : Nat) ∧ f'.get 61 = .bool (!(decide (okTag l many T (tagAt l i))))) ?_ ?_
    · refine LB.Drawn.looseK B hBl 3 0 (by kernel_rfl) (by kernel_rfl) ?_
      rw [show spare t5 0 = t5 from rfl, htA]
      by_cases c1 : (at' : Int) < 132 + 12 * (many : Int)
      · have hb : decide (okTag l many T (nm, (at' : Int), (sz' : Int))) = false := decide_eq_false (fun h => by have h1 : 132 + 12 * (many : Int) ≤ (at' : Int) := h.1; omega)
        simp (config := { maxSteps := 1000000, implicitDefEqProofs := false }) (disch := omega) only [allW, allL, allB, Nat.sub_self, Nat.add_one_sub_one, Nat.reduceSub, cond_true, cond_false, oneOf, evalAll, partsA, optA, List.drop_zero, List.drop_succ_cons, List.cons_append, List.nil_append, Nat.reduceLT, Nat.reduceLeDiff, Nat.reduceEqDiff, Nat.reduceAdd, List.getD_cons_zero, List.getD_cons_succ, List.set_cons_zero, List.set_cons_succ, ↓reduceIte, if_true, if_false, beq_self_eq_true, ne_eq, eq_self, not_true_eq_false, not_false_eq_true, undef, hn, h2, h4, h5, h6, h7, h14, h15, tfld0, tfld1, tfld2, rfld0, hlB, hlT, lt0, lt1, lt2, lb5, cptr_self, eq_true c1, hb]
        exact Stay.refl _ _
      simp (config := { maxSteps := 1000000, implicitDefEqProofs := false }) (disch := omega) only [allW, allL, allB, Nat.sub_self, Nat.add_one_sub_one, Nat.reduceSub, cond_true, cond_false, oneOf, evalAll, partsA, optA, List.drop_zero, List.drop_succ_cons, List.cons_append, List.nil_append, Nat.reduceLT, Nat.reduceLeDiff, Nat.reduceEqDiff, Nat.reduceAdd, List.getD_cons_zero, List.getD_cons_succ, List.set_cons_zero, List.set_cons_succ, ↓reduceIte, if_true, if_false, beq_self_eq_true, ne_eq, eq_self, not_true_eq_false, not_false_eq_true, undef, hn, h2, h4, h5, h6, h7, h14, h15, tfld0, tfld1, tfld2, rfld0, hlB, hlT, lt0, lt1, lt2, lb5, cptr_self, eq_false c1]
      refine (len_any rfl base t5 c l _ hc5).mono ?_
      rintro _ td ⟨rfl, htd⟩
      rw [htd]; clear htd td
      refine ⟨fun _ => LA.StayA.refl _ _, ?_⟩
      by_cases c2 : l.length < at'
      · have hb : decide (okTag l many T (nm, (at' : Int), (sz' : Int))) = false := decide_eq_false (fun h => by have h1 : (at' : Int) ≤ l.length := h.2.1; omega)
        simp (config := { maxSteps := 1000000, implicitDefEqProofs := false }) (disch := omega) only [allW, allL, allB, Nat.sub_self, Nat.add_one_sub_one, Nat.reduceSub, cond_true, cond_false, oneOf, evalAll, partsA, optA, List.drop_zero, List.drop_succ_cons, List.cons_append, List.nil_append, Nat.reduceLT, Nat.reduceLeDiff, Nat.reduceEqDiff, Nat.reduceAdd, List.getD_cons_zero, List.getD_cons_succ, List.set_cons_zero, List.set_cons_succ, ↓reduceIte, if_true, if_false, beq_self_eq_true, ne_eq, eq_self, not_true_eq_false, not_false_eq_true, undef, hn, h2, h4, h5, h6, h7, h14, h15, tfld0, tfld1, tfld2, rfld0, hlB, hlT, lt0, lt1, lt2, lb5, cptr_self, eq_true c2, hb]
        exact Stay.refl _ _
      simp (config := { maxSteps := 1000000, implicitDefEqProofs := false }) (disch := omega) only [allW, allL, allB, Nat.sub_self, Nat.add_one_sub_one, Nat.reduceSub, cond_true, cond_false, oneOf, evalAll, partsA, optA, List.drop_zero, List.drop_succ_cons, List.cons_append, List.nil_append, Nat.reduceLT, Nat.reduceLeDiff, Nat.reduceEqDiff, Nat.reduceAdd, List.getD_cons_zero, List.getD_cons_succ, List.set_cons_zero, List.set_cons_succ, ↓reduceIte, if_true, if_false, beq_self_eq_true, ne_eq, eq_self, not_true_eq_false, not_false_eq_true, undef, hn, h2, h4, h5, h6, h7, h14, h15, tfld0, tfld1, tfld2, rfld0, hlB, hlT, lt0, lt1, lt2, lb5, cptr_self, eq_false c2]
      refine (len_any rfl base t5 c l _ hc5).mono ?_
      rintro _ td ⟨rfl, htd⟩
      rw [htd]; clear htd td
      refine ⟨fun _ => LA.StayA.refl _ _, ?_⟩
      by_cases c3 : (l.length : Int) - at' < sz'
      · have hb : decide (okTag l many T (nm, (at' : Int), (sz' : Int))) = false := decide_eq_false (fun h => by have h1 : (sz' : Int) ≤ l.length - (at' : Int) := h.2.2.1; omega)
        simp (config := { maxSteps := 1000000, implicitDefEqProofs := false }) (disch := omega) only [allW, allL, allB, Nat.sub_self, Nat.add_one_sub_one, Nat.reduceSub, cond_true, cond_false, oneOf, evalAll, partsA, optA, List.drop_zero, List.drop_succ_cons, List.cons_append, List.nil_append, Nat.reduceLT, Nat.reduceLeDiff, Nat.reduceEqDiff, Nat.reduceAdd, List.getD_cons_zero, List.getD_cons_succ, List.set_cons_zero, List.set_cons_succ, ↓reduceIte, if_true, if_false, beq_self_eq_true, ne_eq, eq_self, not_true_eq_false, not_false_eq_true, undef, hn, h2, h4, h5, h6, h7, h14, h15, tfld0, tfld1, tfld2, rfld0, hlB, hlT, lt0, lt1, lt2, lb5, cptr_self, wrapI, eq_true c3, hb]
        exact Stay.refl _ _
      simp (config := { maxSteps := 1000000, implicitDefEqProofs := false }) (disch := omega) only [allW, allL, allB, Nat.sub_self, Nat.add_one_sub_one, Nat.reduceSub, cond_true, cond_false, oneOf, evalAll, partsA, optA, List.drop_zero, List.drop_succ_cons, List.cons_append, List.nil_append, Nat.reduceLT, Nat.reduceLeDiff, Nat.reduceEqDiff, Nat.reduceAdd, List.getD_cons_zero, List.getD_cons_succ, List.set_cons_zero, List.set_cons_succ, ↓reduceIte, if_true, if_false, beq_self_eq_true, ne_eq, eq_self, not_true_eq_false, not_false_eq_true, undef, hn, h2, h4, h5, h6, h7, h14, h15, tfld0, tfld1, tfld2, rfld0, hlB, hlT, lt0, lt1, lt2, lb5, cptr_self, wrapI, eq_false c3, hx5.self]
      refine (named_any rfl rfl rfl rfl t5 x nm T hx5.sees (by rw [tagsTo_length hT]; omega)).mono ?_
      rintro _ td ⟨rfl, hst⟩
      refine ⟨fun _ => LA.Stay.toA hBl hst, ?_⟩
      have hb : decide (okTag l many T (nm, (at' : Int), (sz' : Int))) = !(T.any fun t => decide (t.1 = nm)) := by
        cases hh : (T.any fun t => decide (t.1 = nm)) with
        | true => exact decide_eq_false (fun h => by have := h.2.2.2; rw [hh] at this; cases this)
        | false => exact decide_eq_true ⟨by simp only; omega, by simp only; omega, by simp only; omega, hh⟩
      simp (config := { maxSteps := 1000000, implicitDefEqProofs := false }) (disch := omega) only [allW, allL, allB, Nat.sub_self, Nat.add_one_sub_one, Nat.reduceSub, cond_true, cond_false, oneOf, evalAll, partsA, optA, List.drop_zero, List.drop_succ_cons, List.cons_append, List.nil_append, Nat.reduceLT, Nat.reduceLeDiff, Nat.reduceEqDiff, Nat.reduceAdd, List.getD_cons_zero, List.getD_cons_succ, List.set_cons_zero, List.set_cons_succ, ↓reduceIte, if_true, if_false, beq_self_eq_true, ne_eq, eq_self, not_true_eq_false, not_false_eq_true, undef, hn, h2, h4, h5, h6, h7, h14, h15, hb, Bool.not_not]
      exact hst
    clear hn h2 h4 h5 h6 h7 h14 h15 f
    rintro f s7 ⟨hst7, hn, h2, h4, h5, h6, h7, h10, h14, h15, h61⟩
    have hn7 := hst7.next
    have hu7 : Turns (cptr c) s s7 := hu5.trans ⟨hst7.next, fun j hj _ => hst7.get j hj⟩
    have hc7 := hc5.keeps (by omega) hst7
    by_cases hok : okTag l many T (tagAt l i)
    · rw [decide_eq_true hok] at h61
      have lt7 := Thing.loadAll (P := Try.prog) (cs := tagC (tagAt l i)) agTag szTag (ht5.keeps hst7) (c := 4) rfl
      simp (config := { maxSteps := 1000000, implicitDefEqProofs := false }) (disch := omega) only [allW, allL, allB, Nat.sub_self, Nat.add_one_sub_one, Nat.reduceSub, cond_true, cond_false, oneOf, evalAll, partsA, optA, List.drop_zero, List.drop_succ_cons, List.cons_append, List.nil_append, Nat.reduceLT, Nat.reduceLeDiff, Nat.reduceEqDiff, Nat.reduceAdd, List.getD_cons_zero, List.getD_cons_succ, List.set_cons_zero, List.set_cons_succ, ↓reduceIte, if_true, if_false, beq_self_eq_true, ne_eq, eq_self, not_true_eq_false, not_false_eq_true, hn, h2, h4, h5, h6, h7, h10, h14, h15, h61, lt7, buildAgg1 (cs := (tagC (tagAt l i)).toArray) Try.underlying25 szTag zTag plTag rfl rfl (by decide)]
      refine wstep_append_lit Try.underlying25 szTag byTag zTag rfl (hx5.keeps hst7) (by simp only [get_put, n_put, ↓reduceIte, Nat.reduceEqDiff, h6]) (by decide) (by simp only [get_put, n_put, ↓reduceIte, Nat.reduceEqDiff, hn]; decide) (by simp only [get_put, n_put, ↓reduceIte, Nat.reduceEqDiff, hn]; decide) (by rfl) (by decide) rfl (by rw [tagsTo_length hT]; omega) (by rw [tagsTo_length hT]; omega) hxF (by omega) ?_
      intro bs x' s8 hx8 hF8 hst8 hut8 hor
      have hn8 := hut8.next
      simp (config := { maxSteps := 1000000, implicitDefEqProofs := false }) (disch := omega) only [allW, allL, allB, Nat.sub_self, Nat.add_one_sub_one, Nat.reduceSub, cond_true, cond_false, oneOf, evalAll, partsA, optA, List.drop_zero, List.drop_succ_cons, List.cons_append, List.nil_append, Nat.reduceLT, Nat.reduceLeDiff, Nat.reduceEqDiff, Nat.reduceAdd, List.getD_cons_zero, List.getD_cons_succ, List.set_cons_zero, List.set_cons_succ, ↓reduceIte, if_true, if_false, beq_self_eq_true, ne_eq, eq_self, not_true_eq_false, not_false_eq_true, hn, h2, h4, h5, h6, h7, h10, h14, h15, wrapI]
      have hne : idOf x ≠ some c := fun e => by have := hxF c e; omega
      have hne2 : idOf x ≠ some s.next := fun e => by have := hxF s.next e; omega
      have e1 : tagsC T ++ (tagC (tagAt l i)) = tagsC (T ++ [tagAt l i]) := by simp [tagsC]
      have e2 : T.length + 1 = (T ++ [tagAt l i]).length := by simp
      rw [e1, e2] at hx8
      refine wround_next (many - (i + 1)) (by omega) ⟨i + 1, T ++ [tagAt l i], x', rfl, by omega, tagsTo_next hT hok, hx8, hF8, (htb5.keeps hst7).turns hut8 hne2, ⟨_, hc7.turns (by omega) (fun j hj => by have := hxF j hj; omega) hut8 hne⟩, ?_, by omega, by simp only [get_put, n_put, ↓reduceIte, Nat.reduceEqDiff, hn], by simp only [get_put, n_put, ↓reduceIte, Nat.reduceEqDiff, h2], by simp only [get_put, n_put, ↓reduceIte, Nat.reduceEqDiff, h4], by simp only [get_put, n_put, ↓reduceIte, Nat.reduceEqDiff, h5], by simp only [get_put, n_put, ↓reduceIte, Nat.reduceEqDiff], by simp only [get_put, n_put, ↓reduceIte, Nat.reduceEqDiff, h7], by simp only [get_put, n_put, ↓reduceIte, Nat.reduceEqDiff, h14], by simp only [get_put, n_put, ↓reduceIte, Nat.reduceEqDiff]; rfl⟩
      exact ⟨by have := hu7.next; omega, fun j hj hh => (hut8.get j (Nat.lt_of_lt_of_le hj hu7.next) (fun e => by have := hxF j e; have := hst1.next; omega)).trans (hu7.get j hj hh)⟩
    · rw [decide_eq_false hok] at h61
      simp (config := { maxSteps := 1000000, implicitDefEqProofs := false }) (disch := omega) only [allW, allL, allB, Nat.sub_self, Nat.add_one_sub_one, Nat.reduceSub, cond_true, cond_false, oneOf, evalAll, partsA, optA, List.drop_zero, List.drop_succ_cons, List.cons_append, List.nil_append, Nat.reduceLT, Nat.reduceLeDiff, Nat.reduceEqDiff, Nat.reduceAdd, List.getD_cons_zero, List.getD_cons_succ, List.set_cons_zero, List.set_cons_succ, ↓reduceIte, if_true, if_false, beq_self_eq_true, ne_eq, eq_self, not_true_eq_false, not_false_eq_true, hn, h2, h4, h5, h6, h7, h10, h14, h15, h61]
      simp (config := { maxSteps := 1000000, implicitDefEqProofs := false }) (disch := omega) only [allW, wfn_ret, wfn_normal, cond_true, cond_false, oneOf, evalAll, partsA, optA, List.drop_zero, List.drop_succ_cons, List.cons_append, List.nil_append, Nat.reduceLT, Nat.reduceLeDiff, Nat.reduceEqDiff, Nat.reduceAdd, List.getD_cons_zero, List.getD_cons_succ, List.set_cons_zero, List.set_cons_succ, ↓reduceIte, if_true, if_false, beq_self_eq_true, ne_eq, eq_self, not_true_eq_false, not_false_eq_true, hn, Try.results22]
      refine ⟨⟨.slice none 0 0, false, rfl, ?_⟩, ⟨_, hc7⟩, hu7⟩
      rw [tagsTo_bad hT hok many hlt]
      exact ⟨rfl, rfl⟩
  · obtain rfl : i = many := by omega
    have d1 : ¬ (i : Int) < (i : Int) := by omega
    simp (config := { maxSteps := 1000000, implicitDefEqProofs := false }) (disch := omega) only [allW, wfn_ret, wfn_normal, cond_true, cond_false, oneOf, evalAll, partsA, optA, List.drop_zero, List.drop_succ_cons, List.cons_append, List.nil_append, Nat.reduceLT, Nat.reduceLeDiff, Nat.reduceEqDiff, Nat.reduceAdd, List.getD_cons_zero, List.getD_cons_succ, List.set_cons_zero, List.set_cons_succ, ↓reduceIte, if_true, if_false, beq_self_eq_true, ne_eq, eq_self, not_true_eq_false, not_false_eq_true, hn, h2, h4, h5, h6, h7, h14, h15, eq_false d1, Try.results22]
    refine ⟨⟨x, true, rfl, ?_⟩, ⟨_, hcb⟩, hu⟩
    rw [hT]
    exact ⟨rfl, hx, fun j hj => by have := hxF j hj; have := hst1.next; omega⟩
end Go.Proofs.Ytbakljlaladpoaa
