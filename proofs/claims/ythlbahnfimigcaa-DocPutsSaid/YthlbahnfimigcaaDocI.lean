import Derived.Test.YthlbahnfimigcaaDocE
set_option linter.unusedSimpArgs false
set_option linter.unusedVariables false
set_option maxRecDepth 100000
namespace Go.Cl
inductive WalksN (D : List (Int × O)) : Nat -> List Int -> List Int -> List Int -> Prop
 | done (l : List Int) : WalksN D 0 [] l l
 | skip (k : Nat) (n : Int) (st l r : List Int) (h : (findD D n).2 = false ∨ n ∈ l) (w : WalksN D k st l r) : WalksN D (k + 1) (n :: st) l r
 | meet (k : Nat) (n : Int) (st l r : List Int) (h1 : (findD D n).2 = true) (h2 : n ∉ l) (w : WalksN D k (refsO (findD D n).1 ++ st) (l ++ [n]) r) : WalksN D (k + 1) (n :: st) l r
theorem WalksN.stack {D : List (Int × O)} {k : Nat} {st l r : List Int} (h : WalksN D k st l r) : st.length ≤ k := by
 induction h with
 | done => exact Nat.le_refl _
 | skip k n st l r _ _ ih => rw [List.length_cons]; omega
 | meet k n st l r _ _ _ ih => rw [List.length_append] at ih; rw [List.length_cons]; omega
theorem WalksN.size {D : List (Int × O)} {k : Nat} {st l r : List Int} (h : WalksN D k st l r) : l.length ≤ r.length ∧ r.length ≤ l.length + k := by
 induction h with
 | done => exact ⟨Nat.le_refl _, Nat.le_refl _⟩
 | skip k n st l r _ _ ih => omega
 | meet k n st l r _ _ _ ih => rw [List.length_append, List.length_singleton] at ih; omega
theorem WalksN.only {D : List (Int × O)} {k : Nat} {st l r : List Int} (h : WalksN D k st l r) : ∀ {k' : Nat} {r' : List Int}, WalksN D k' st l r' -> r = r' := by
 induction h with
 | done l => intro k' r' h'; cases h'; rfl
 | skip k n st l r h w ih =>
  intro k' r' h'
  cases h' with
  | skip _ _ _ _ _ _ w' => exact ih w'
  | meet _ _ _ _ _ h1 h2 w' =>
   rcases h with h | h
   ·rw [h] at h1; cases h1
   ·exact absurd h h2
 | meet k n st l r h1 h2 w ih =>
  intro k' r' h'
  cases h' with
  | skip _ _ _ _ _ h w' =>
   rcases h with h | h
   ·rw [h] at h1; cases h1
   ·exact absurd h h2
  | meet _ _ _ _ _ _ _ w' => exact ih w'
noncomputable def namedD (D : List (Int × O)) (T l : List Int) : List Int := T ++ l.flatMap fun n => refsO (findD D n).1
structure MetAll (D : List (Int × O)) (T l : List Int) : Prop where
 once : l.Nodup
 there : ∀ n ∈ l, (findD D n).2 = true
 ahead : ∀ i (h : i < l.length), l[i] ∈ namedD D T (l.take i)
theorem namedD_snoc (D : List (Int × O)) (T l : List Int) (n : Int) : namedD D T (l ++ [n]) = namedD D T l ++ refsO (findD D n).1 := by
 unfold namedD; simp
theorem WalksN.all {D : List (Int × O)} {T : List Int} {k : Nat} {st l r : List Int} (h : WalksN D k st l r) : MetAll D T l -> (∀ n ∈ st, n ∈ namedD D T l) -> (∀ n ∈ namedD D T l, (findD D n).2 = true -> n ∈ l ∨ n ∈ st) -> MetAll D T r ∧ ∀ n ∈ namedD D T r, (findD D n).2 = true -> n ∈ r := by
 induction h with
 | done l => intro h1 _ h3; exact ⟨h1, fun n hn hf => (h3 n hn hf).elim id (fun h => by cases h)⟩
 | skip k n st l r h w ih =>
  intro h1 h2 h3
  refine ih h1 (fun m hm => h2 m (List.mem_cons_of_mem _ hm)) (fun m hm hf => ?_)
  rcases h3 m hm hf with h4 | h4
  ·exact .inl h4
  ·rcases List.mem_cons.1 h4 with rfl | h4
   ·rcases h with h | h
    ·rw [h] at hf; cases hf
    ·exact .inl h
   ·exact .inr h4
 | meet k n st l r c1 c2 w ih =>
  intro h1 h2 h3
  refine ih ⟨?_, ?_, ?_⟩ ?_ ?_
  ·rw [List.nodup_append]
   refine ⟨h1.once, by simp, fun a ha b hb => ?_⟩
   rw [List.mem_singleton] at hb
   subst hb
   intro e; subst e; exact c2 ha
  ·intro m hm
   rcases List.mem_append.1 hm with hm | hm
   ·exact h1.there m hm
   ·rw [List.mem_singleton] at hm; subst hm; exact c1
  ·intro i hi
   by_cases hil : i < l.length
   ·rw [List.getElem_append_left hil, List.take_append_of_le_length (Nat.le_of_lt hil)]
    exact h1.ahead i hil
   ·have : i = l.length := by rw [List.length_append, List.length_singleton] at hi; omega
    subst this
    rw [List.take_append_of_le_length (Nat.le_refl _), List.take_length]
    simpa using h2 n (List.mem_cons_self ..)
  ·intro m hm
   rw [namedD_snoc]
   rcases List.mem_append.1 hm with hm | hm
   ·exact List.mem_append_right _ hm
   ·exact List.mem_append_left _ (h2 m (List.mem_cons_of_mem _ hm))
  ·intro m hm hf
   rw [namedD_snoc] at hm
   rcases List.mem_append.1 hm with hm | hm
   ·rcases h3 m hm hf with h4 | h4
    ·exact .inl (List.mem_append_left _ h4)
    ·rcases List.mem_cons.1 h4 with rfl | h4
     ·exact .inl (List.mem_append_right _ (List.mem_singleton.2 rfl))
     ·exact .inr (List.mem_append_right _ h4)
   ·exact .inr (List.mem_append_left _ hm)
structure AtTo (D : List (Int × O)) (i : Nat) (T : List (Int × Value)) : Prop where
 found : ∀ n v, seekJ n T = some v -> ∃ (j : Nat) (h : j < D.length), j < i ∧ v = .int .i64 (j : Nat) ∧ D[j].1 = n ∧ ∀ j' (h' : j' < D.length), j' < j -> D[j'].1 ≠ n
 none : ∀ n, seekJ n T = Option.none -> ∀ j (h : j < D.length), j < i -> D[j].1 ≠ n
theorem AtTo.start (D : List (Int × O)) : AtTo D 0 [] := ⟨fun n v h => (by cases h), fun n _ j _ h => by omega⟩
theorem AtTo.had {D : List (Int × O)} {i : Nat} {T : List (Int × Value)} (h : AtTo D i T) (hi : i < D.length) (hs : (seekJ D[i].1 T).isSome = true) : AtTo D (i + 1) T := by
 refine ⟨fun n v hv => ?_, fun n hn j hj hji => ?_⟩
 ·obtain ⟨j, hj, h1, h2⟩ := h.found n v hv
  exact ⟨j, hj, by omega, h2⟩
 ·by_cases e : j = i
  ·subst e
   intro q
   rw [q, hn] at hs
   cases hs
  ·exact h.none n hn j hj (by omega)
theorem AtTo.new {D : List (Int × O)} {i : Nat} {T : List (Int × Value)} (h : AtTo D i T) (hi : i < D.length) (hs : seekJ D[i].1 T = Option.none) : AtTo D (i + 1) (putJ D[i].1 (.int .i64 (i : Nat)) T) := by
 refine ⟨fun n v hv => ?_, fun n hn j hj hji => ?_⟩
 ·rw [seekJ_put] at hv
  split at hv
  ·rename_i e
   injection hv with hv
   subst e
   exact ⟨i, hi, by omega, hv.symm, rfl, fun j' h' hlt => h.none _ hs j' h' hlt⟩
  ·obtain ⟨j, hj, h1, h2⟩ := h.found n v hv
   exact ⟨j, hj, by omega, h2⟩
 ·rw [seekJ_put] at hn
  split at hn
  ·cases hn
  ·rename_i e
   by_cases ej : j = i
   ·subst ej; exact fun q => e q.symm
   ·exact h.none n hn j hj (by omega)
theorem AtTo.some {D : List (Int × O)} {T : List (Int × Value)} (h : AtTo D D.length T) {n : Int} (hf : (findD D n).2 = true) : ∃ (j : Nat) (hj : j < D.length), seekJ n T = Option.some (.int .i64 (j : Nat)) ∧ findD D n = (D[j].2, true) := by
 cases hs : seekJ n T with
 | none =>
  have := findD_none (fun j hj => h.none n hs j hj hj)
  rw [this] at hf; cases hf
 | some v =>
  obtain ⟨j, hj, -, rfl, h1, h2⟩ := h.found n v hs
  exact ⟨j, hj, rfl, findD_at hj h1 (fun j' h' => h2 j' (Nat.lt_trans h' hj) h')⟩
theorem AtTo.gone {D : List (Int × O)} {T : List (Int × Value)} (h : AtTo D D.length T) {n : Int} (hf : (findD D n).2 = false) : seekJ n T = Option.none := by
 cases hs : seekJ n T with
 | none => rfl
 | some v =>
  obtain ⟨j, hj, -, rfl, h1, h2⟩ := h.found n v hs
  rw [findD_at hj h1 (fun j' h' => h2 j' (Nat.lt_trans h' hj) h')] at hf
  cases hf
structure MetTo (l : List Int) (T : List (Int × Value)) : Prop where
 found : ∀ n v, seekJ n T = some v -> ∃ (j : Nat) (h : j < l.length), l[j] = n ∧ v = .int .i64 ((j + 1 : Nat) : Int)
 none : ∀ n, seekJ n T = Option.none -> n ∉ l
theorem MetTo.start : MetTo [] [] := ⟨fun n v h => (by cases h), fun n _ h => (by cases h)⟩
theorem MetTo.snoc {l : List Int} {T : List (Int × Value)} (h : MetTo l T) (n : Int) : MetTo (l ++ [n]) (putJ n (.int .i64 ((l.length + 1 : Nat) : Int)) T) := by
 refine ⟨fun m v hv => ?_, fun m hm => ?_⟩
 ·rw [seekJ_put] at hv
  split at hv
  ·rename_i e
   injection hv with hv
   subst e
   exact ⟨l.length, by simp, by simp, hv.symm⟩
  ·obtain ⟨j, hj, h1, h2⟩ := h.found m v hv
   exact ⟨j, by rw [List.length_append]; omega, by rw [List.getElem_append_left hj]; exact h1, h2⟩
 ·rw [seekJ_put] at hm
  split at hm
  ·cases hm
  ·rename_i e
   rw [List.mem_append, List.mem_singleton]
   exact fun q => q.elim (h.none m hm) e
theorem MetTo.is {l : List Int} {T : List (Int × Value)} (h : MetTo l T) (n : Int) : (seekJ n T).isSome = decide (n ∈ l) := by
 cases hs : seekJ n T with
 | none => rw [decide_eq_false (h.none n hs)]; rfl
 | some v =>
  obtain ⟨j, hj, h1, -⟩ := h.found n v hs
  rw [decide_eq_true (h1 ▸ List.getElem_mem hj)]; rfl
theorem newMapJ (s : ASt) : ∃ s', s.new (.map []) = s' ∧ MapJ s' s.next [] ∧ Stay s.next s s' ∧ s'.next = s.next + 1 := by
 refine ⟨_, rfl, ⟨by rw [next_new]; omega, ?_⟩, Stay.new s _, rfl⟩
 simp only [ASt.map?, ASt.new, Tr.get_set_self _ _ _ _ (deep (by omega))]
 rfl
end Go.Cl
namespace Go.Cl
def wkC (D : Dc) (mv : Value) (tc : List Value) (iv : Value) (a m : Nat) (lv : Value) : List Value := docC D mv tc iv ++ [.map (some a), .map (some m), lv]
structure WkIs (F : Nat -> Prop) (base : Nat) (s : ASt) (w : Nat) (D : Dc) (mv : Value) (tc : List Value) (iv : Value) (ic : List Value) (a m : Nat) (TA TM : List (Int × Value)) (lv : Value) (l : List Int) : Prop where
 doc : DocIs F s mv tc iv ic D
 low : ∀ j, F j -> j < base
 thing : Thing s w (wkC D mv tc iv a m lv)
 at_ : MapJ s a TA
 met : MapJ s m TM
 list : Own s 1 lv l.length (intsV l)
 hw : base ≤ w
 ha : base ≤ a
 hm : base ≤ m
 hl : Fresh base lv
 wa : w ≠ a
 wm : w ≠ m
 am : a ≠ m
 lw : idOf lv ≠ some w
 la : idOf lv ≠ some a
 lm : idOf lv ≠ some m
section
variable {F : Nat -> Prop} {base : Nat} {s s' : ASt} {w : Nat} {D : Dc} {mv : Value} {tc : List Value} {iv : Value} {ic : List Value} {a m : Nat} {TA TM : List (Int × Value)} {lv : Value} {l : List Int}
theorem WkIs.keeps (h : WkIs F base s w D mv tc iv ic a m TA TM lv l) (k : Stay s.next s s') : WkIs F base s' w D mv tc iv ic a m TA TM lv l :=
 { h with doc := h.doc.keeps k, thing := h.thing.keeps k, at_ := h.at_.keeps k, met := h.met.keeps k, list := h.list.keeps k }
theorem WkIs.turns (h : WkIs F base s w D mv tc iv ic a m TA TM lv l) {u : Value} (k : Turns u s s') (hu : Fresh base u) (h1 : idOf u ≠ some w) (h2 : idOf u ≠ some a) (h3 : idOf u ≠ some m) (h4 : ∀ i, idOf lv = some i -> idOf u ≠ some i) : WkIs F base s' w D mv tc iv ic a m TA TM lv l :=
 { h with
   doc := h.doc.turns k (fun j hj e => by have := hu j e; have := h.low j hj; omega)
   thing := h.thing.turns k h1
   at_ := h.at_.turns k h2
   met := h.met.turns k h3
   list := h.list.turns k h4 }
end
end Go.Cl
namespace Go.Proofs.Ythlbahnfimigcaa
open Go.Cl Go.Lib
theorem szMp : sizeB Try.prog 59 = some 1 := by kernel_rfl
theorem agMp : isAggB Try.prog 59 = some false := by kernel_rfl
theorem agIn : isAggB Try.prog 32 = some false := by kernel_rfl
theorem szIn : sizeB Try.prog 32 = some 1 := by kernel_rfl
theorem uInt : Try.prog.underlying 3 = some (.int .i64) := Try.underlying3
theorem uMpJ : Try.prog.underlying 59 = some (.map 3 3) := Try.underlying59
theorem plInt : plainV (.int .i64 0) = true := by kernel_rfl
theorem wf0 (i o c : Nat) : fieldAddrA Try.prog 61 (.pointer (some ⟨i, o, some c⟩)) 0 = some (.pointer (some ⟨i, o + 0, some c⟩)) := by
 unfold fieldAddrA; rw [Try.underlying61]; simp [szD]
theorem wf1 (i o c : Nat) : fieldAddrA Try.prog 61 (.pointer (some ⟨i, o, some c⟩)) 1 = some (.pointer (some ⟨i, o + 9, some c⟩)) := by
 unfold fieldAddrA; rw [Try.underlying61]; simp [szD, szMp]
theorem wf2 (i o c : Nat) : fieldAddrA Try.prog 61 (.pointer (some ⟨i, o, some c⟩)) 2 = some (.pointer (some ⟨i, o + 10, some c⟩)) := by
 unfold fieldAddrA; rw [Try.underlying61]; simp [szD, szMp]
theorem wf3 (i o c : Nat) : fieldAddrA Try.prog 61 (.pointer (some ⟨i, o, some c⟩)) 3 = some (.pointer (some ⟨i, o + 11, some c⟩)) := by
 unfold fieldAddrA; rw [Try.underlying61]; simp [szD, szMp, szIn]
section
variable {t : ASt} {i : Nat} {D : Dc} {mv iv lv : Value} {tc : List Value} {a m : Nat}
theorem wk_len (hl : tc.length = 5) : (wkC D mv tc iv a m lv).length = 12 := by simp [wkC, db_len hl]
theorem wk_at (h : Thing t i (wkC D mv tc iv a m lv)) (hl : tc.length = 5) : loadA Try.prog t 59 (.pointer (some ⟨i, 9, some 13⟩)) = some (.map (some a)) := by
 have := h.load (P := Try.prog) agMp (off := 9) (c := 13) (by rw [wk_len hl]) (by rw [wk_len hl]; omega)
 rw [this]
 obtain ⟨a, b, c, d, e, rfl⟩ := five hl
 rfl
theorem wk_met (h : Thing t i (wkC D mv tc iv a m lv)) (hl : tc.length = 5) : loadA Try.prog t 59 (.pointer (some ⟨i, 10, some 13⟩)) = some (.map (some m)) := by
 have := h.load (P := Try.prog) agMp (off := 10) (c := 13) (by rw [wk_len hl]) (by rw [wk_len hl]; omega)
 rw [this]
 obtain ⟨a, b, c, d, e, rfl⟩ := five hl
 rfl
theorem wk_list (h : Thing t i (wkC D mv tc iv a m lv)) (hl : tc.length = 5) : loadA Try.prog t 32 (.pointer (some ⟨i, 11, some 13⟩)) = some lv := by
 have := h.load (P := Try.prog) agIn (off := 11) (c := 13) (by rw [wk_len hl]) (by rw [wk_len hl]; omega)
 rw [this]
 obtain ⟨a, b, c, d, e, rfl⟩ := five hl
 rfl
theorem wk_items (h : Thing t i (wkC D mv tc iv a m lv)) (hl : tc.length = 5) : loadA Try.prog t 27 (.pointer (some ⟨i, 8, some 13⟩)) = some iv := by
 have := h.load (P := Try.prog) agIs (off := 8) (c := 13) (by rw [wk_len hl]) (by rw [wk_len hl]; omega)
 rw [this]
 obtain ⟨a, b, c, d, e, rfl⟩ := five hl
 rfl
theorem wk_over (hl : tc.length = 5) (lv' : Value) : over (wkC D mv tc iv a m lv) 11 [lv'] = wkC D mv tc iv a m lv' := by
 obtain ⟨a, b, c, d, e, rfl⟩ := five hl
 rfl
theorem bWk (hl : tc.length = 5) (a b : Nat) : buildA Try.prog 61 [(0, .agg (docC D mv tc iv).toArray), (1, .map (some a)), (2, .map (some b))] = some (.agg (wkC D mv tc iv a b (.slice none 0 0)).toArray) := by
 obtain ⟨a, b, c, d, e, rfl⟩ := five hl
 kernel_rfl
end
def OpenR (F : Nat -> Prop) (s : ASt) (D : Dc) (mv : Value) (tc : List Value) (iv : Value) (ic : List Value) (v : Value) (s' : ASt) : Prop :=
 ∃ (w a m : Nat) (TA : List (Int × Value)), v = .pointer (some ⟨w, 0, some 13⟩) ∧ WkIs (fun j => F j ∧ j < s.next) s.next s' w D mv tc iv ic a m TA [] (.slice none 0 0) [] ∧ AtTo D.items D.items.length TA ∧ Stay s.next s s'
set_option maxHeartbeats 4000000 in
theorem open_any {lib : Prims} (hl : lib.at 59 = none) (F : Nat -> Prop) (s : ASt) (D : Dc) (mv : Value) (tc : List Value) (iv : Value) (ic : List Value) (hD : DocIs F s mv tc iv ic D) (hs : SmallD D) :
  Runs Try.prog lib 59 [.agg (docC D mv tc iv).toArray] s (OpenR F s D mv tc iv ic) := by
 have htl := hD.trailer.len
 have dl := db_len (D := D) (mv := mv) (iv := iv) htl
 have hlen := hs.len
 refine Runs.enter 42 Try.func59 rfl hl rfl rfl ?_
 intro f hn hf
 have h0 : f.get 0 = .agg (docC D mv tc iv).toArray := hf 0
 clear hf
 simp -implicitDefEqProofs (disch := omega) only [allW, allR, oneOf, evalAll, partsA, optA, Nat.reduceLT, Nat.reduceLeDiff, Nat.reduceEqDiff, Nat.reduceAdd, ↓reduceIte, hn, h0]
 refine wstep_newPtr ?_
 intro s1 ht1 hst1 hnx1
 have ht1 : Thing s1 s.next (docC D mv tc iv) := ht1
 simp -implicitDefEqProofs (disch := omega) only [allW, allR, oneOf, evalAll, partsA, optA, Nat.reduceLT, Nat.reduceLeDiff, Nat.reduceEqDiff, Nat.reduceAdd, ↓reduceIte, hn, h0, dl, db_all ht1 htl]
 obtain ⟨s2, e2, hm2, hst2, hnx2⟩ := newMapJ s1
 rw [e2]
 obtain ⟨s3, e3, hm3, hst3, hnx3⟩ := newMapJ s2
 rw [e3]
 simp -implicitDefEqProofs (disch := omega) only [allW, allR, oneOf, evalAll, partsA, optA, Nat.reduceLT, Nat.reduceLeDiff, Nat.reduceEqDiff, Nat.reduceAdd, ↓reduceIte, hn, h0, dl, bWk htl]
 refine wstep_newPtr ?_
 intro s4 ht4 hst4 hnx4
 have ht4 : Thing s4 s3.next (wkC D mv tc iv s1.next s2.next (.slice none 0 0)) := ht4
 have hwl := wk_len (D := D) (mv := mv) (iv := iv) (a := s1.next) (m := s2.next) (lv := .slice none 0 0) htl
 have n1 := hst1.next
 have n2 := hst2.next
 have n3 := hst3.next
 have n4 := hst4.next
 have k14 : Stay s1.next s1 s4 := (hst2.trans (hst3.weaken n2)).trans (hst4.weaken (by omega))
 have hs4 : Stay s.next s s4 := hst1.trans (k14.weaken n1)
 have ht14 := ht1.keeps k14
 have hI4 := hD.items.keeps hs4
 have hA4 := hm2.keeps (hst3.trans (hst4.weaken n3))
 have hM4 := hm3.keeps hst4
 simp -implicitDefEqProofs (disch := omega) only [allW, allR, oneOf, evalAll, partsA, optA, Nat.reduceLT, Nat.reduceLeDiff, Nat.reduceEqDiff, Nat.reduceAdd, ↓reduceIte, hn, h0, dl, hwl, df4, db_items ht14 htl, hI4.lenA Try.underlying27]
 refine Comes.loopOut (fun z f t => ∃ (i : Nat) (TA : List (Int × Value)), z = D.items.length - i ∧ i ≤ D.items.length ∧ AtTo D.items i TA ∧ WkIs (fun j => F j ∧ j < s.next) s.next t s3.next D mv tc iv ic s1.next s2.next TA [] (.slice none 0 0) [] ∧ Stay s1.next s1 t ∧ f.n = 42 ∧ f.get 3 = .pointer (some ⟨s3.next, 0, some 13⟩) ∧ f.get 14 = iv ∧ f.get 15 = .int .i64 (D.items.length : Nat) ∧ f.get 16 = .int .i64 (i : Nat))
  (fun z f t => z = .exit 0 ∧ ∃ TA : List (Int × Value), AtTo D.items D.items.length TA ∧ WkIs (fun j => F j ∧ j < s.next) s.next t s3.next D mv tc iv ic s1.next s2.next TA [] (.slice none 0 0) [] ∧ Stay s1.next s1 t ∧ f.n = 42 ∧ f.get 3 = .pointer (some ⟨s3.next, 0, some 13⟩))
  ⟨0, [], rfl, by omega, AtTo.start _, ⟨hD.lows.keeps hs4, fun j h => h.2, ht4, hA4, hM4, .nil, by omega, n1, by omega, Fresh.nil _, by omega, by omega, by omega, (fun e => by cases e), (fun e => by cases e), (fun e => by cases e)⟩, k14, by simp only [get_put, n_put, ↓reduceIte, Nat.reduceEqDiff, hn], by simp only [get_put, n_put, ↓reduceIte, Nat.reduceEqDiff], by simp only [get_put, n_put, ↓reduceIte, Nat.reduceEqDiff], by simp only [get_put, n_put, ↓reduceIte, Nat.reduceEqDiff], by simp only [get_put, n_put, ↓reduceIte, Nat.reduceEqDiff]; rfl⟩ ?_ ?_
 ·clear hn h0 f
  rintro Q hQ z f t ⟨i, TA, rfl, hi, hAt, hW, hst, hn, h3, h14, h15, h16⟩
  by_cases hlt : i < D.items.length
  rotate_left
  ·obtain rfl : i = D.items.length := by omega
   have d1 : ¬ ((D.items.length : Nat) : Int) < ((D.items.length : Nat) : Int) := by omega
   simp -implicitDefEqProofs (disch := omega) only [allW, allR, oneOf, evalAll, partsA, optA, Nat.reduceLT, Nat.reduceLeDiff, Nat.reduceEqDiff, Nat.reduceAdd, ↓reduceIte, hn, h3, h14, h15, h16, eq_false d1]
   exact hQ _ _ _ ⟨rfl, TA, hAt, hW, hst, by simp only [get_put, n_put, ↓reduceIte, Nat.reduceEqDiff, hn], by simp only [get_put, n_put, ↓reduceIte, Nat.reduceEqDiff, h3]⟩
  have d1 : (i : Int) < (D.items.length : Int) := by omega
  have hIt := hW.doc.items
  have hix := hIt.indexAddr (P := Try.prog) (k := .i64) (x := (i : Int)) Try.underlying27 szI (by omega) (by omega)
  rw [Int.toNat_natCast] at hix
  have hrow := hW.doc.rows.row i hlt
  have hld := hIt.loadAgg (P := Try.prog) agI szI hlt
  generalize hxs : (ic.drop (i * 6)).take 6 = xs at hld hrow
  have hxl := hrow.len
  have hxo := hrow.ok
  have hn6 : noneI.length + 1 = 7 := rfl
  simp -implicitDefEqProofs (disch := omega) only [allW, allR, oneOf, evalAll, partsA, optA, Nat.reduceLT, Nat.reduceLeDiff, Nat.reduceEqDiff, Nat.reduceAdd, ↓reduceIte, hn, h3, h14, h15, h16, eq_true d1, hix, hld, zI, plI]
  refine wstep_newPtr ?_
  intro t1 ht1' hst1' hnx1'
  simp -implicitDefEqProofs (disch := omega) only [allW, allR, oneOf, evalAll, partsA, optA, Nat.reduceLT, Nat.reduceLeDiff, Nat.reduceEqDiff, Nat.reduceAdd, ↓reduceIte, hn, h3, h14, h15, h16, hn6]
  refine wstep_storeAll szI (by decide) ht1' rfl rfl hxl hxo ?_
  intro t2 ht2' hnx2' hot2'
  have ht2' : Thing t2 t.next xs := ht2'
  have hstt2 : Stay t.next t t2 := hst1'.trans ⟨by omega, fun j hj => hot2' j (by omega)⟩
  have hW2 := hW.keeps hstt2
  obtain ⟨r, hr, -⟩ := hrow
  have lN : loadA Try.prog t2 3 (.pointer (some ⟨t.next, 0, some 7⟩)) = some (.int .i64 D.items[i].1) := by
   have := ht2'.load (P := Try.prog) agInt (off := 0) (c := 7) (by rw [hxl]) (by rw [hxl]; omega)
   rw [this, hr]; rfl
  have hlk := hW2.at_.lookup uMpJ uInt zInt plInt D.items[i].1
  have hs2 : Stay s1.next s1 t2 := hst.trans (hstt2.weaken hst.next)
  have hT2 := hW2.thing
  cases hc : seekJ D.items[i].1 TA with
  | some v =>
   obtain ⟨j, -, -, rfl, -⟩ := hAt.found _ _ hc
   rw [hc] at hlk
   simp only [Option.getD_some, Option.isSome_some] at hlk
   simp -implicitDefEqProofs (disch := omega) only [allW, allR, oneOf, evalAll, partsA, optA, Nat.reduceLT, Nat.reduceLeDiff, Nat.reduceEqDiff, Nat.reduceAdd, ↓reduceIte, hn, h3, h14, h15, h16, wf1, if0, wk_at hT2 htl, lN, hlk, valEq_int, valEq_mapV, valEq_look, quiet_lookup, ext0, ext1, valEq_bool, wrapI, Bool.not_true]
   exact wround_next (D.items.length - (i + 1)) (by omega) ⟨i + 1, TA, rfl, by omega, hAt.had hlt (by rw [hc]; rfl), hW2, hs2, by simp only [get_put, n_put, ↓reduceIte, Nat.reduceEqDiff, hn], by simp only [get_put, n_put, ↓reduceIte, Nat.reduceEqDiff, h3], by simp only [get_put, n_put, ↓reduceIte, Nat.reduceEqDiff, h14], by simp only [get_put, n_put, ↓reduceIte, Nat.reduceEqDiff, h15], by simp only [get_put, n_put, ↓reduceIte, Nat.reduceEqDiff]; rfl⟩
  | none =>
   rw [hc] at hlk
   simp only [Option.getD_none, Option.isSome_none] at hlk
   simp -implicitDefEqProofs (disch := omega) only [allW, allR, oneOf, evalAll, partsA, optA, Nat.reduceLT, Nat.reduceLeDiff, Nat.reduceEqDiff, Nat.reduceAdd, ↓reduceIte, hn, h3, h14, h15, h16, wf1, if0, wk_at hT2 htl, lN, hlk, valEq_int, valEq_mapV, valEq_look, quiet_lookup, ext0, ext1, valEq_bool, Bool.not_false]
   obtain ⟨B, hB⟩ : ∃ B : Nat -> Bool, B = fun j => decide (j < t2.next) := ⟨_, rfl⟩
   have hBl : ∀ j, B j = true -> j < t2.next := by
    intro j h
    rw [hB] at h
    exact of_decide_eq_true h
   have hBo : ∀ j, j < t2.next -> B j = true := fun j h => by rw [hB]; exact decide_eq_true h
   refine LB.Drawn.looseK B hBl 0 0 (by kernel_rfl) (by kernel_rfl) ?_
   have hsq := Stay.spare t2 0
   have hTq := hT2.keeps hsq
   have hlw : ∀ k, LA.lowV B (some (.pointer (some ⟨s3.next, k, some 13⟩))) = true := fun k => LA.lowV_ptr (A := B) (i := s3.next) (hBo _ hT2.lt)
   have hlt' : ∀ k, LA.lowV B (some (.pointer (some ⟨t.next, k, some 7⟩))) = true := fun k => LA.lowV_ptr (A := B) (i := t.next) (hBo _ ht2'.lt)
   have lNq : loadA Try.prog (spare t2 0) 3 (.pointer (some ⟨t.next, 0, some 7⟩)) = some (.int .i64 D.items[i].1) := by
    have := (ht2'.keeps hsq).load (P := Try.prog) agInt (off := 0) (c := 7) (by rw [hxl]) (by rw [hxl]; omega)
    rw [this, hr]; rfl
   simp -implicitDefEqProofs (disch := omega) only [allW, allR, allL, allB, Nat.sub_self, Nat.add_one_sub_one, Nat.reduceSub, oneOf, evalAll, partsA, optA, Nat.reduceLT, Nat.reduceLeDiff, Nat.reduceEqDiff, Nat.reduceAdd, ↓reduceIte, hn, h3, h14, h15, h16, wf1, if0, wk_at hTq htl, hlw, hlt', lNq, valEq_int, valEq_mapV]
   refine LB.sstep_mapUpdateJ uMpJ uInt (hW2.at_.keeps hsq) D.items[i].1 (.int .i64 (i : Nat)) (fun h => absurd rfl h) ?_
   intro t3 hA3 hnx3' hot3
   simp -implicitDefEqProofs (disch := omega) only [allW, allR, allL, allB, Nat.sub_self, Nat.add_one_sub_one, Nat.reduceSub, oneOf, evalAll, partsA, optA, Nat.reduceLT, Nat.reduceLeDiff, Nat.reduceEqDiff, Nat.reduceAdd, ↓reduceIte, allW, allR, oneOf, evalAll, partsA, optA, Nat.reduceLT, Nat.reduceLeDiff, Nat.reduceEqDiff, Nat.reduceAdd, ↓reduceIte, hn, h3, h14, h15, h16, wrapI]
   have hWq := hW2.keeps hsq
   have hnA := hWq.at_.lt
   have hW3 : WkIs (fun j => F j ∧ j < s.next) s.next t3 s3.next D mv tc iv ic s1.next s2.next (putJ D.items[i].1 (.int .i64 (i : Nat)) TA) [] (.slice none 0 0) [] :=
    { hWq with
      doc := hWq.doc.turns (u := .pointer (some ⟨s1.next, 0, none⟩)) (Turns.ofPut hnx3' hot3) (fun j hj e => by
       have e : some s1.next = some j := e
       injection e with e; have := hj.2; omega)
      thing := hWq.thing.ofPut hnx3' hot3 (by omega)
      at_ := hA3
      met := hWq.met.ofPut hnx3' hot3 (by omega)
      list := .nil }
   exact wround_next (D.items.length - (i + 1)) (by omega) ⟨i + 1, _, rfl, by omega, hAt.new hlt hc, hW3, (hs2.trans (hsq.weaken hs2.next)).trans ⟨by omega, fun j hj => hot3 j (by omega)⟩, by simp only [get_put, n_put, ↓reduceIte, Nat.reduceEqDiff, hn], by simp only [get_put, n_put, ↓reduceIte, Nat.reduceEqDiff, h3], by simp only [get_put, n_put, ↓reduceIte, Nat.reduceEqDiff, h14], by simp only [get_put, n_put, ↓reduceIte, Nat.reduceEqDiff, h15], by simp only [get_put, n_put, ↓reduceIte, Nat.reduceEqDiff]; rfl⟩
 clear hn h0 f
 rintro z f t ⟨rfl, TA, hAt, hW, hst, hn, h3⟩
 simp -implicitDefEqProofs (disch := omega) only [allW, allR, wfn_ret, wfn_normal, oneOf, evalAll, partsA, optA, Nat.reduceLT, Nat.reduceLeDiff, Nat.reduceEqDiff, Nat.reduceAdd, ↓reduceIte, hn, h3, Try.results59]
 exact ⟨s3.next, s1.next, s2.next, TA, rfl, hW, hAt, hst1.trans (hst.weaken n1)⟩
end Go.Proofs.Ythlbahnfimigcaa
namespace Go.Cl
structure ApartW (x lv : Value) (w a m : Nat) : Prop where
 w : idOf x ≠ some w
 a : idOf x ≠ some a
 m : idOf x ≠ some m
 l : ∀ i, idOf lv = some i -> idOf x ≠ some i
theorem ApartW.late {x lv : Value} {w a m n : Nat} (h : ∀ i, idOf x = some i -> n ≤ i) (hw : w < n) (ha : a < n) (hm : m < n) (hl : ∀ i, idOf lv = some i -> i < n) : ApartW x lv w a m :=
 ⟨fun e => by have := h _ e; omega, fun e => by have := h _ e; omega, fun e => by have := h _ e; omega, fun i hi e => by have := h _ e; have := hl i hi; omega⟩
theorem ApartW.same {x x' lv : Value} {w a m n : Nat} (h : ApartW x lv w a m) (hi : idOf x' = idOf x ∨ ∃ i, idOf x' = some i ∧ n ≤ i) (hw : w < n) (ha : a < n) (hm : m < n) (hl : ∀ i, idOf lv = some i -> i < n) : ApartW x' lv w a m := by
 rcases hi with e | ⟨i, e, hn⟩
 ·exact ⟨by rw [e]; exact h.w, by rw [e]; exact h.a, by rw [e]; exact h.m, by rw [e]; exact h.l⟩
 ·exact ApartW.late (n := n) (fun j hj => by rw [e] at hj; injection hj with hj; omega) hw ha hm hl
theorem ApartW.list {x lv lv' : Value} {w a m n : Nat} (h : ApartW x lv w a m) (hi : idOf lv' = idOf lv ∨ ∃ i, idOf lv' = some i ∧ n ≤ i) (hx : ∀ i, idOf x = some i -> i < n) : ApartW x lv' w a m := by
 refine ⟨h.w, h.a, h.m, fun j hj => ?_⟩
 rcases hi with e | ⟨i, e, hn⟩
 ·exact h.l j (by rw [← e]; exact hj)
 ·rw [e] at hj; injection hj with hj
  intro q; have := hx _ q; omega
section
variable {F : Nat -> Prop} {base : Nat} {s s' s2 s3 : ASt} {w : Nat} {D : Dc} {mv : Value} {tc : List Value} {iv : Value} {ic : List Value} {a m : Nat} {TA TM : List (Int × Value)} {lv lv' : Value} {l l' : List Int}
theorem WkIs.apart {x : Value} (h : WkIs F base s w D mv tc iv ic a m TA TM lv l) (k : Turns x s s') (hF : Fresh base x) (hx : ApartW x lv w a m) : WkIs F base s' w D mv tc iv ic a m TA TM lv l :=
 h.turns k hF hx.w hx.a hx.m hx.l
theorem turns_of_put {i : Nat} (h1 : s'.next = s.next) (h2 : ∀ j, j ≠ i -> s'.heap.get j = s.heap.get j) : Turns (.pointer (some ⟨i, 0, none⟩)) s s' := Turns.ofPut h1 h2
theorem WkIs.grow (h : WkIs F base s w D mv tc iv ic a m TA TM lv l) (hb : base ≤ s.next) (h2 : Own s2 1 lv' l'.length (intsV l')) (hF2 : Fresh base lv') (ht : Turns lv s s2) (hid : idOf lv' = idOf lv ∨ ∃ i, idOf lv' = some i ∧ s.next ≤ i)
  (h3 : Thing s3 w (wkC D mv tc iv a m lv')) (hn : s3.next = s2.next) (ho : ∀ j, j ≠ w -> s3.heap.get j = s2.heap.get j) : WkIs F base s3 w D mv tc iv ic a m TA TM lv' l' := by
 have hlw : idOf lv' ≠ some w := by
  rcases hid with e | ⟨i, e, hi⟩
  ·rw [e]; exact h.lw
  ·rw [e]; intro q; injection q with q; have := h.thing.lt; omega
 have hla : idOf lv' ≠ some a := by
  rcases hid with e | ⟨i, e, hi⟩
  ·rw [e]; exact h.la
  ·rw [e]; intro q; injection q with q; have := h.at_.lt; omega
 have hlm : idOf lv' ≠ some m := by
  rcases hid with e | ⟨i, e, hi⟩
  ·rw [e]; exact h.lm
  ·rw [e]; intro q; injection q with q; have := h.met.lt; omega
 exact
 { doc := (h.doc.turns ht (fun j hj e => by have := h.hl j e; have := h.low j hj; omega)).turns (turns_of_put hn ho) (fun j hj e => by
   have e : some w = some j := e
   injection e with e; have := h.low j hj; have := h.hw; omega)
   low := h.low
   thing := h3
   at_ := (h.at_.turns ht h.la).ofPut hn ho h.wa
   met := (h.met.turns ht h.lm).ofPut hn ho h.wm
   list := h2.ofPut hn ho hlw
   hw := h.hw
   ha := h.ha
   hm := h.hm
   hl := hF2
   wa := h.wa
   wm := h.wm
   am := h.am
   lw := hlw
   la := hla
   lm := hlm }
theorem WkIs.number {TM' : List (Int × Value)} (h : WkIs F base s w D mv tc iv ic a m TA TM lv l) (h2 : MapJ s' m TM') (hn : s'.next = s.next) (ho : ∀ j, j ≠ m -> s'.heap.get j = s.heap.get j) : WkIs F base s' w D mv tc iv ic a m TA TM' lv l :=
 { h with
   doc := h.doc.turns (turns_of_put hn ho) (fun j hj e => by
    have e : some m = some j := e
    injection e with e; have := h.low j hj; have := h.hm; omega)
   thing := h.thing.ofPut hn ho h.wm
   at_ := h.at_.ofPut hn ho h.am.symm
   met := h2
   list := h.list.ofPut hn ho h.lm }
theorem WkIs.wider {G : Nat -> Prop} {b2 : Nat} (h : WkIs F base s w D mv tc iv ic a m TA TM lv l) (hG : ∀ j, F j -> G j) (hG2 : ∀ j, G j -> j < b2) (hb : b2 ≤ base) : WkIs G b2 s w D mv tc iv ic a m TA TM lv l :=
 { h with
   doc := h.doc.mono hG
   low := hG2
   hw := Nat.le_trans hb h.hw
   ha := Nat.le_trans hb h.ha
   hm := Nat.le_trans hb h.hm
   hl := fun i hi => Nat.le_trans hb (h.hl i hi) }
end
end Go.Cl
namespace Go.Proofs.Ythlbahnfimigcaa
open Go.Cl Go.Lib
def WalkR (F : Nat -> Prop) (base : Nat) (s : ASt) (w : Nat) (D : Dc) (mv : Value) (tc : List Value) (iv : Value) (ic : List Value) (a m : Nat) (TA : List (Int × Value)) (r : List Int) (_ : Value) (s' : ASt) : Prop :=
 ∃ (TM : List (Int × Value)) (lv : Value), WkIs F base s' w D mv tc iv ic a m TA TM lv r ∧ MetTo r TM ∧ Stay base s s'
set_option maxHeartbeats 8000000 in
theorem walk_any {lib : Prims} (hl : lib.at 60 = none) (hrv : lib.at 78 = none) (hrf : lib.at 61 = none) (hlp : lib.at 79 = none) (hle : lib.at 67 = none)
  (F : Nat -> Prop) (base : Nat) (s : ASt) (w : Nat) (D : Dc) (mv : Value) (tc : List Value) (iv : Value) (ic : List Value) (a m : Nat) (TA TM : List (Int × Value)) (lv : Value) (hW : WkIs F base s w D mv tc iv ic a m TA TM lv []) (hM : MetTo [] TM) (hA : AtTo D.items D.items.length TA) (hs : SmallD D) (hb : base ≤ s.next)
  (x : Value) (st : List Int) (hx : Own s 1 x st.length (intsV st)) (hxF : Fresh base x) (hxA : ApartW x lv w a m) (k0 : Nat) (r : List Int) (hw : WalksN D.items k0 st [] r) (hk0 : k0 ≤ 10000000) :
  Runs Try.prog lib 60 [.pointer (some ⟨w, 0, some 13⟩), x] s (WalkR F base s w D mv tc iv ic a m TA r) := by
 have htl := hW.doc.trailer.len
 have hlen := hs.len
 have hst0 := hw.stack
 have hrl := hw.size.2
 rw [List.length_nil, Nat.zero_add] at hrl
 refine Runs.enter 84 Try.func60 rfl hl rfl rfl ?_
 intro f hn hf
 have h0 : f.get 0 = .pointer (some ⟨w, 0, some 13⟩) := hf 0
 have h1 : f.get 1 = x := hf 1
 clear hf
 simp -implicitDefEqProofs (disch := omega) only [allW, allR, oneOf, evalAll, partsA, optA, Nat.reduceLT, Nat.reduceLeDiff, Nat.reduceEqDiff, Nat.reduceAdd, ↓reduceIte, hn, h0, h1]
 refine (rev_any hrv s x st hx (by omega)).mono ?_
 rintro _ s1 ⟨hx1, htu1⟩
 have hst1 : Stay base s s1 := htu1.keeps hxF hb
 have hW1 := hW.apart htu1 hxF hxA
 rw [← List.length_reverse] at hx1
 simp -implicitDefEqProofs (disch := omega) only [allW, allR, oneOf, evalAll, partsA, optA, Nat.reduceLT, Nat.reduceLeDiff, Nat.reduceEqDiff, Nat.reduceAdd, ↓reduceIte, hn, h0, h1]
 refine Comes.loopOut (fun z f t => ∃ (st l : List Int) (x : Value) (TM : List (Int × Value)) (lv : Value), WalksN D.items z st l r ∧ z ≤ k0 ∧ WkIs F base t w D mv tc iv ic a m TA TM lv l ∧ MetTo l TM ∧ Pre t 1 x st.length (intsV st.reverse) ∧ Fresh base x ∧ ApartW x lv w a m ∧ Stay base s t ∧ f.n = 84 ∧ f.get 0 = .pointer (some ⟨w, 0, some 13⟩) ∧ f.get 1 = x)
  (fun z f t => z = .exit 0 ∧ ∃ (TM : List (Int × Value)) (lv : Value), WkIs F base t w D mv tc iv ic a m TA TM lv r ∧ MetTo r TM ∧ Stay base s t ∧ f.n = 84)
  ⟨st, [], x, TM, lv, hw, Nat.le_refl _, hW1, hM, by rw [← List.length_reverse]; exact hx1.pre, hxF, hxA, hst1, by simp only [get_put, n_put, ↓reduceIte, Nat.reduceEqDiff, hn], by simp only [get_put, n_put, ↓reduceIte, Nat.reduceEqDiff, h0], by simp only [get_put, n_put, ↓reduceIte, Nat.reduceEqDiff, h1]⟩ ?_ ?_
 ·clear hn h0 h1 f hx hxF hxA hW hM hW1 hst1 hx1 htu1 hst0 hw x st TM lv
  rintro Q hQ z f t ⟨st, l, x, TM, lv, hw, hz, hW, hM, hx, hxF, hxA, hst, hn, h0, h1⟩
  have hzl := hw.stack
  have hbt : base ≤ t.next := Nat.le_trans hb hst.next
  cases st with
  | nil =>
   have e := hw.only (WalksN.done l)
   subst e
   have d1 : ¬ (0 : Int) < ((([] : List Int).length : Nat) : Int) := by simp
   simp -implicitDefEqProofs (disch := omega) only [allW, allR, oneOf, evalAll, partsA, optA, Nat.reduceLT, Nat.reduceLeDiff, Nat.reduceEqDiff, Nat.reduceAdd, ↓reduceIte, hn, h0, h1, hx.sees.lenA Try.underlying32, eq_false d1]
   exact hQ _ _ _ ⟨rfl, TM, lv, hW, hM, hst, by simp only [get_put, n_put, ↓reduceIte, Nat.reduceEqDiff, hn]⟩
  | cons n st =>
  rw [List.length_cons] at hzl
  obtain ⟨L, hL⟩ : ∃ L, L = st.length := ⟨_, rfl⟩
  have e1 : (n :: st).length = L + 1 := by rw [List.length_cons, hL]
  rw [e1] at hx
  have d1 : (0 : Int) < ((L + 1 : Nat) : Int) := by omega
  have ek : ((L + 1 : Nat) : Int) - 1 = (L : Int) := by omega
  have hln := hx.sees.lenA (P := Try.prog) Try.underlying32 (s2 := t)
  have hix := hx.sees.indexAddr (P := Try.prog) (k := .i64) (x := ((L + 1 : Nat) : Int) - 1) Try.underlying32 szInt (by omega) (by omega)
  rw [show (((L + 1 : Nat) : Int) - 1).toNat = L by omega] at hix
  have hll := hx.sees.load1 (P := Try.prog) agInt (k := L) (by omega)
  rw [intsV_getD (by simp; omega)] at hll
  have hel : (n :: st).reverse[L]'(by simp; omega) = n := by
   subst hL; simp
  rw [hel] at hll
  obtain ⟨x', hcut, hx', hid'⟩ := hx.cutHigh (P := Try.prog) Try.underlying32 szInt (kk := .i64) (k := L) (by omega)
  rw [← ek] at hcut
  have hT : (intsV (n :: st).reverse).take (L * 1) = intsV st.reverse := by
   subst hL
   simp [intsV]
  rw [hT, hL] at hx'
  have hxF' : Fresh base x' := fun i hi => hxF i (by rw [← hid']; exact hi)
  have hxA' : ApartW x' lv w a m := ⟨by rw [hid']; exact hxA.w, by rw [hid']; exact hxA.a, by rw [hid']; exact hxA.m, by rw [hid']; exact hxA.l⟩
  have hTh := hW.thing
  have hlA := hW.at_.lookup uMpJ uInt zInt plInt n
  have hlM := hW.met.lookup uMpJ uInt zInt plInt n
  by_cases c2 : n ∈ l
  ·obtain ⟨k, rfl, hw'⟩ : ∃ k, z = k + 1 ∧ WalksN D.items k st l r := by
    cases hw with
    | skip k _ _ _ _ h w' => exact ⟨k, rfl, w'⟩
    | meet k _ _ _ _ h1 h2 w' => exact absurd c2 h2
   rw [hM.is n, decide_eq_true c2] at hlM
   generalize (seekJ n TM).getD (.int .i64 0) = vm at hlM
   generalize (seekJ n TA).getD (.int .i64 0) = va at hlA
   generalize (seekJ n TA).isSome = ba at hlA
   simp -implicitDefEqProofs (disch := omega) only [allW, allR, oneOf, evalAll, partsA, optA, Nat.reduceLT, Nat.reduceLeDiff, Nat.reduceEqDiff, Nat.reduceAdd, ↓reduceIte, undef, hn, h0, h1, hln, eq_true d1, hix, hll, hcut, wf1, wf2, wk_at hTh htl, wk_met hTh htl, hlA, hlM, ext0, ext1, wrapI]
   exact wround_next k (by omega) ⟨st, l, x', TM, lv, hw', by omega, hW, hM, hx', hxF', hxA', hst, by simp only [get_put, n_put, ↓reduceIte, Nat.reduceEqDiff, hn], by simp only [get_put, n_put, ↓reduceIte, Nat.reduceEqDiff, h0], by simp only [get_put, n_put, ↓reduceIte, Nat.reduceEqDiff]⟩
  rw [hM.is n, decide_eq_false c2] at hlM
  generalize (seekJ n TM).getD (.int .i64 0) = vm at hlM
  cases hsa : seekJ n TA with
  | none =>
   rw [hsa] at hlA
   simp only [Option.getD_none, Option.isSome_none] at hlA
   have hno : (findD D.items n).2 = false := by
    cases hq : (findD D.items n).2 with
    | false => rfl
    | true =>
     obtain ⟨j, hj, hs, -⟩ := hA.some hq
     rw [hsa] at hs; cases hs
   obtain ⟨k, rfl, hw'⟩ : ∃ k, z = k + 1 ∧ WalksN D.items k st l r := by
    cases hw with
    | skip k _ _ _ _ h w' => exact ⟨k, rfl, w'⟩
    | meet k _ _ _ _ h1 h2 w' => rw [hno] at h1; cases h1
   simp -implicitDefEqProofs (disch := omega) only [allW, allR, oneOf, evalAll, partsA, optA, Nat.reduceLT, Nat.reduceLeDiff, Nat.reduceEqDiff, Nat.reduceAdd, ↓reduceIte, undef, hn, h0, h1, hln, eq_true d1, hix, hll, hcut, wf1, wf2, wk_at hTh htl, wk_met hTh htl, hlA, hlM, ext0, ext1, wrapI, Bool.not_false]
   exact wround_next k (by omega) ⟨st, l, x', TM, lv, hw', by omega, hW, hM, hx', hxF', hxA', hst, by simp only [get_put, n_put, ↓reduceIte, Nat.reduceEqDiff, hn], by simp only [get_put, n_put, ↓reduceIte, Nat.reduceEqDiff, h0], by simp only [get_put, n_put, ↓reduceIte, Nat.reduceEqDiff]⟩
  | some v =>
  obtain ⟨j, hj, -, rfl, hj1, hj2⟩ := hA.found n v hsa
  rw [hsa] at hlA
  simp only [Option.getD_some, Option.isSome_some] at hlA
  have hfd : findD D.items n = (D.items[j].2, true) := findD_at hj hj1 (fun j' h' => hj2 j' (Nat.lt_trans h' hj) h')
  obtain ⟨k, rfl, hw'⟩ : ∃ k, z = k + 1 ∧ WalksN D.items k (refsO D.items[j].2 ++ st) (l ++ [n]) r := by
   cases hw with
   | skip k _ _ _ _ h w' =>
    rcases h with h | h
    ·rw [hfd] at h; cases h
    ·exact absurd h c2
   | meet k _ _ _ _ h1 h2 w' => rw [hfd] at w'; exact ⟨k, rfl, w'⟩
  have hlr := hw'.size.1
  rw [List.length_append, List.length_singleton] at hlr
  have hrs := hw'.stack
  rw [List.length_append] at hrs
  simp -implicitDefEqProofs (disch := omega) only [allW, allR, oneOf, evalAll, partsA, optA, Nat.reduceLT, Nat.reduceLeDiff, Nat.reduceEqDiff, Nat.reduceAdd, ↓reduceIte, undef, hn, h0, h1, hln, eq_true d1, hix, hll, hcut, wf1, wf2, wf3, wk_at hTh htl, wk_met hTh htl, wk_list hTh htl, hlA, hlM, ext0, ext1, wrapI, Bool.not_true, build1 Try.underlying32 szInt zInt]
  refine wstep_newSlice rfl ?_
  intro y t1 hy hyF hst1
  have hn1 := hst1.next
  have hW1 := hW.keeps hst1
  simp -implicitDefEqProofs (disch := omega) only [allW, allR, oneOf, evalAll, partsA, optA, Nat.reduceLT, Nat.reduceLeDiff, Nat.reduceEqDiff, Nat.reduceAdd, ↓reduceIte, hn, h0, h1]
  refine wstep_append Try.underlying32 Try.underlying32 (.inl ⟨_, rfl⟩) szInt byInt zInt rfl hW1.list hy.sees.src rfl (by decide) rfl (by omega) (by omega) hW1.hl (by omega) ?_
  intro lv' t2 hl2 hlF2 hst2 htu2 hid2
  have hn2 := hst2.next
  simp -implicitDefEqProofs (disch := omega) only [allW, allR, oneOf, evalAll, partsA, optA, Nat.reduceLT, Nat.reduceLeDiff, Nat.reduceEqDiff, Nat.reduceAdd, ↓reduceIte, hn, h0, h1, wf3]
  refine wstep_storeN szIn (by decide) (hW1.thing.turns htu2 hW1.lw) (off := 11) (c := 13) (by rw [wk_len htl]) (vs := [lv']) hl2.sees.cell1 rfl (by rw [wk_len htl]; exact Nat.le_refl _) (by simp [hl2.sees.okCell]) ?_
  intro t3 ht3 hn3 ho3
  rw [wk_over htl] at ht3
  have el : (l ++ [n]).length = l.length + 1 := by simp
  have hl2' : Own t2 1 lv' (l ++ [n]).length (intsV (l ++ [n])) := by rw [el, intsV_append]; exact hl2
  have hW3 := hW1.grow (by omega) hl2' hlF2 htu2 hid2 ht3 hn3 ho3
  have hx3 := (((hx'.keeps hst1).turns htu2 (fun i hi e => hxA'.l i e hi)).turns (turns_of_put hn3 ho3) (fun i hi e => by
   have e : some w = some i := e
   exact hxA'.w (by rw [hi, e])))
  have hst3 : Stay base s t3 := ((hst.trans (hst1.weaken hbt)).trans hst2).trans ⟨by omega, fun i hi => ho3 i (by have := hW.hw; omega)⟩
  have hxA3 : ApartW x' lv' w a m := hxA'.list hid2 (fun i hi => by have := hx'.idlt i hi; omega)
  simp -implicitDefEqProofs (disch := omega) only [allW, allR, oneOf, evalAll, partsA, optA, Nat.reduceLT, Nat.reduceLeDiff, Nat.reduceEqDiff, Nat.reduceAdd, ↓reduceIte, hn, h0, h1]
  obtain ⟨B, hB⟩ : ∃ B : Nat -> Bool, B = fun j => decide (j < t3.next) := ⟨_, rfl⟩
  have hBl : ∀ j, B j = true -> j < t3.next := by
   intro j h
   rw [hB] at h
   exact of_decide_eq_true h
  have hBo : ∀ j, j < t3.next -> B j = true := fun j h => by rw [hB]; exact decide_eq_true h
  refine LB.Drawn.looseK B hBl 0 0 (by kernel_rfl) (by kernel_rfl) ?_
  have hsq := Stay.spare t3 0
  have hWq := hW3.keeps hsq
  have hTq := hWq.thing
  have hlw : ∀ k, LA.lowV B (some (.pointer (some ⟨w, k, some 13⟩))) = true := fun k => LA.lowV_ptr (A := B) (i := w) (hBo _ ht3.lt)
  have hln3 := hWq.list.sees.lenA (P := Try.prog) Try.underlying32 (s2 := spare t3 0)
  rw [el] at hln3
  simp -implicitDefEqProofs (disch := omega) only [allW, allR, allL, allB, Nat.sub_self, Nat.add_one_sub_one, Nat.reduceSub, oneOf, evalAll, partsA, optA, Nat.reduceLT, Nat.reduceLeDiff, Nat.reduceEqDiff, Nat.reduceAdd, ↓reduceIte, hn, h0, h1, wf2, wf3, wk_met hTq htl, wk_list hTq htl, hlw, hWq.list.self, LA.lowL_sees hWq.list.sees, hln3, valEq_int, valEq_mapV]
  refine LB.sstep_mapUpdateJ uMpJ uInt hWq.met n (.int .i64 ((l.length + 1 : Nat) : Int)) (fun h => absurd rfl h) ?_
  intro t4 hm4 hn4 ho4
  have hW4 := hWq.number hm4 hn4 ho4
  have hM4 := hM.snoc n
  have hnq : (spare t3 0).next = t3.next + 0 := spare_next _ _
  have hst4 : Stay base s t4 := (hst3.trans (hsq.weaken (by omega))).trans ⟨by omega, fun i hi => ho4 i (by have := hW.hm; omega)⟩
  have hx4 := (hx3.keeps hsq).turns (turns_of_put hn4 ho4) (fun i hi e => by
   have e : some m = some i := e
   exact hxA'.m (by rw [hi, e]))
  have hI4 := hW4.doc.items
  have hjx := hI4.indexAddr (P := Try.prog) (k := .i64) (x := (j : Int)) Try.underlying27 szI (by omega) (by omega)
  rw [Int.toNat_natCast] at hjx
  obtain ⟨q0, q1⟩ := efI hI4 hj
  obtain ⟨b1, b2, b3, -⟩ := itemB (hW4.doc.rows.row j hj)
  have hlv := hI4.loadPart (P := Try.prog) agO szO hj (j := 1) (by omega)
  simp -implicitDefEqProofs (disch := omega) only [allW, allR, allL, allB, Nat.sub_self, Nat.add_one_sub_one, Nat.reduceSub, oneOf, evalAll, partsA, optA, Nat.reduceLT, Nat.reduceLeDiff, Nat.reduceEqDiff, Nat.reduceAdd, ↓reduceIte, allW, allR, oneOf, evalAll, partsA, optA, Nat.reduceLT, Nat.reduceLeDiff, Nat.reduceEqDiff, Nat.reduceAdd, ↓reduceIte, hn, h0, h1, wf0, df4, wk_items hW4.thing htl, hjx, q1, hlv]
  have hsm := hs.items _ (List.getElem_mem hj)
  refine (refs_any hrf hlp hle _ D.items[j].2 (Nat.le_refl _) F t4 _ b3 hsm (by omega)).mono ?_
  rintro y2 t5 ⟨hy5, hyF5, hst5⟩
  have hn5 := hst5.next
  simp -implicitDefEqProofs (disch := omega) only [allW, allR, oneOf, evalAll, partsA, optA, Nat.reduceLT, Nat.reduceLeDiff, Nat.reduceEqDiff, Nat.reduceAdd, ↓reduceIte, hn, h0, h1]
  refine (rev_any hrv t5 y2 _ hy5 (by omega)).mono ?_
  rintro _ t6 ⟨hy6, htu6⟩
  have hn6 := htu6.next
  have hb4 : base ≤ t4.next := Nat.le_trans hb hst4.next
  have hW5 := hW4.keeps hst5
  have hyb : Fresh base y2 := fun i hi => Nat.le_trans hb4 (hyF5 i hi)
  have hW6 := hW5.apart htu6 hyb (ApartW.late hyF5 hW4.thing.lt hW4.at_.lt hW4.met.lt hW4.list.idlt)
  have hx6 := (hx4.keeps hst5).turns htu6 (fun i hi e => by have := hyF5 i e; have := hx4.idlt i hi; omega)
  have hst6 : Stay base s t6 := (hst4.trans (hst5.weaken hb4)).trans (htu6.keeps hyb (by omega))
  rw [← List.length_reverse] at hy6
  simp -implicitDefEqProofs (disch := omega) only [allW, allR, oneOf, evalAll, partsA, optA, Nat.reduceLT, Nat.reduceLeDiff, Nat.reduceEqDiff, Nat.reduceAdd, ↓reduceIte, hn, h0, h1]
  refine wstep_appendPre Try.underlying32 Try.underlying32 (.inl ⟨_, rfl⟩) szInt byInt zInt rfl hx6 hy6.sees.src (by rw [intsV_length, Nat.mul_one]) (by decide) (intsV_ok _) (by rw [List.length_reverse]; omega) (by rw [List.length_reverse]; omega) hxF' (by omega) ?_
  intro x7 t7 hx7 hxF7 hst7 htu7 hid7
  have hW7 := hW6.apart htu7 hxF' hxA3
  simp -implicitDefEqProofs (disch := omega) only [allW, allR, oneOf, evalAll, partsA, optA, Nat.reduceLT, Nat.reduceLeDiff, Nat.reduceEqDiff, Nat.reduceAdd, ↓reduceIte, hn, h0, h1]
  exact wround_next k (by omega) ⟨refsO D.items[j].2 ++ st, l ++ [n], x7, _, lv', hw', by omega, hW7, hM4, by
   rw [List.length_append, List.reverse_append, intsV_append, Nat.add_comm]
   rw [List.length_reverse] at hx7
   exact hx7, hxF7, hxA3.same hid7 hW6.thing.lt hW6.at_.lt hW6.met.lt hW6.list.idlt, hst6.trans hst7, by simp only [get_put, n_put, ↓reduceIte, Nat.reduceEqDiff, hn], by simp only [get_put, n_put, ↓reduceIte, Nat.reduceEqDiff, h0], by simp only [get_put, n_put, ↓reduceIte, Nat.reduceEqDiff]⟩
 clear hn h0 h1 f
 rintro z f t ⟨rfl, TM, lv, hW, hM, hst, hn⟩
 simp -implicitDefEqProofs (disch := omega) only [allW, allR, wfn_ret, wfn_normal, oneOf, evalAll, partsA, optA, Nat.reduceLT, Nat.reduceLeDiff, Nat.reduceEqDiff, Nat.reduceAdd, ↓reduceIte, hn, Try.results60]
 exact ⟨TM, lv, hW, hM, hst⟩
end Go.Proofs.Ythlbahnfimigcaa
namespace Go.Proofs.Ythlbahnfimigcaa
open Go.Cl Go.Lib
def WalkedR (F : Nat -> Prop) (s : ASt) (D : Dc) (mv : Value) (tc : List Value) (iv : Value) (ic : List Value) (r : List Int) (v : Value) (s' : ASt) : Prop :=
 ∃ (w a m : Nat) (TA TM : List (Int × Value)) (lv : Value), v = .pointer (some ⟨w, 0, some 13⟩) ∧ WkIs (fun j => F j ∧ j < s.next) s.next s' w D mv tc iv ic a m TA TM lv r ∧ AtTo D.items D.items.length TA ∧ MetTo r TM ∧ Stay s.next s s'
set_option maxHeartbeats 8000000 in
theorem walked_any {lib : Prims} (hl : lib.at 38 = none) (ho : lib.at 59 = none) (hw : lib.at 60 = none) (hrv : lib.at 78 = none) (hrf : lib.at 61 = none) (hlp : lib.at 79 = none) (hle : lib.at 67 = none)
  (F : Nat -> Prop) (s : ASt) (D : Dc) (mv : Value) (tc : List Value) (iv : Value) (ic : List Value) (hD : DocIs F s mv tc iv ic D) (hs : SmallD D) (k : Nat) (r : List Int) (hk : WalksN D.items k (refsO D.trailer) [] r) (hk0 : k ≤ 10000000) :
  Runs Try.prog lib 38 [.agg (docC D mv tc iv).toArray] s (WalkedR F s D mv tc iv ic r) := by
 have htl := hD.trailer.len
 have dl := db_len (D := D) (mv := mv) (iv := iv) htl
 have hst := hk.stack
 refine Runs.enter 12 Try.func38 rfl hl rfl rfl ?_
 intro f hn hf
 have h0 : f.get 0 = .agg (docC D mv tc iv).toArray := hf 0
 clear hf
 simp -implicitDefEqProofs (disch := omega) only [allW, allR, oneOf, evalAll, partsA, optA, Nat.reduceLT, Nat.reduceLeDiff, Nat.reduceEqDiff, Nat.reduceAdd, ↓reduceIte, hn, h0]
 refine wstep_newPtr ?_
 intro s1 ht1 hst1 hnx1
 have ht1 : Thing s1 s.next (docC D mv tc iv) := ht1
 have n1 := hst1.next
 simp -implicitDefEqProofs (disch := omega) only [allW, allR, oneOf, evalAll, partsA, optA, Nat.reduceLT, Nat.reduceLeDiff, Nat.reduceEqDiff, Nat.reduceAdd, ↓reduceIte, hn, h0, dl, db_all ht1 htl]
 refine (open_any ho (fun j => F j ∧ j < s.next) s1 D mv tc iv ic (hD.lows.keeps hst1) hs).mono ?_
 rintro _ s2 ⟨w, a, m, TA, rfl, hW2, hA, hst2⟩
 have n2 := hst2.next
 have ht2 := ht1.keeps hst2
 have hs2 : Stay s.next s s2 := hst1.trans (hst2.weaken n1)
 simp -implicitDefEqProofs (disch := omega) only [allW, allR, oneOf, evalAll, partsA, optA, Nat.reduceLT, Nat.reduceLeDiff, Nat.reduceEqDiff, Nat.reduceAdd, ↓reduceIte, hn, h0, df3, db_trailer ht2 htl]
 refine (refs_any hrf hlp hle _ D.trailer (Nat.le_refl _) F s2 tc (hD.trailer.keeps hs2) hs.trailer (by omega)).mono ?_
 rintro y s3 ⟨hy, hyF, hst3⟩
 have n3 := hst3.next
 simp -implicitDefEqProofs (disch := omega) only [allW, allR, oneOf, evalAll, partsA, optA, Nat.reduceLT, Nat.reduceLeDiff, Nat.reduceEqDiff, Nat.reduceAdd, ↓reduceIte, hn, h0]
 have hW3 := hW2.keeps hst3
 refine (walk_any hw hrv hrf hlp hle _ s1.next s3 w D mv tc iv ic a m TA [] _ hW3 MetTo.start hA hs (by omega) y (refsO D.trailer) hy (fun i hi => by have := hyF i hi; omega) (ApartW.late hyF hW2.thing.lt hW2.at_.lt hW2.met.lt (fun i hi => by cases hi)) k r hk hk0).mono ?_
 rintro _ s4 ⟨TM, lv, hW4, hM, hst4⟩
 simp -implicitDefEqProofs (disch := omega) only [allW, allR, oneOf, evalAll, partsA, optA, Nat.reduceLT, Nat.reduceLeDiff, Nat.reduceEqDiff, Nat.reduceAdd, ↓reduceIte, allW, allR, wfn_ret, wfn_normal, oneOf, evalAll, partsA, optA, Nat.reduceLT, Nat.reduceLeDiff, Nat.reduceEqDiff, Nat.reduceAdd, ↓reduceIte, hn, h0, Try.results38]
 exact ⟨w, a, m, TA, TM, lv, rfl, hW4.wider (fun j h => h.1) (fun j h => h.2) n1, hA, hM, (hs2.trans (hst3.weaken (by omega))).trans (hst4.weaken n1)⟩
def ReachR (s : ASt) (r : List Int) (v : Value) (s' : ASt) : Prop := Own s' 1 v r.length (intsV r) ∧ Fresh s.next v ∧ Stay s.next s s'
set_option maxHeartbeats 8000000 in
theorem reach_any {lib : Prims} (hre : lib.at 10 = none) (hl : lib.at 38 = none) (ho : lib.at 59 = none) (hw : lib.at 60 = none) (hrv : lib.at 78 = none) (hrf : lib.at 61 = none) (hlp : lib.at 79 = none) (hle : lib.at 67 = none)
  (F : Nat -> Prop) (s : ASt) (D : Dc) (mv : Value) (tc : List Value) (iv : Value) (ic : List Value) (hD : DocIs F s mv tc iv ic D) (hs : SmallD D) (k : Nat) (r : List Int) (hk : WalksN D.items k (refsO D.trailer) [] r) (hk0 : k ≤ 10000000) :
  Runs Try.prog lib 10 [.agg (docC D mv tc iv).toArray] s (ReachR s r) := by
 have htl := hD.trailer.len
 have dl := db_len (D := D) (mv := mv) (iv := iv) htl
 refine Runs.enter 8 Try.func10 rfl hre rfl rfl ?_
 intro f hn hf
 have h0 : f.get 0 = .agg (docC D mv tc iv).toArray := hf 0
 clear hf
 simp -implicitDefEqProofs (disch := omega) only [allW, allR, oneOf, evalAll, partsA, optA, Nat.reduceLT, Nat.reduceLeDiff, Nat.reduceEqDiff, Nat.reduceAdd, ↓reduceIte, hn, h0]
 refine wstep_newPtr ?_
 intro s1 ht1 hst1 hnx1
 have ht1 : Thing s1 s.next (docC D mv tc iv) := ht1
 have n1 := hst1.next
 simp -implicitDefEqProofs (disch := omega) only [allW, allR, oneOf, evalAll, partsA, optA, Nat.reduceLT, Nat.reduceLeDiff, Nat.reduceEqDiff, Nat.reduceAdd, ↓reduceIte, hn, h0, dl, db_all ht1 htl]
 refine (walked_any hl ho hw hrv hrf hlp hle F s1 D mv tc iv ic (hD.keeps hst1) hs k r hk hk0).mono ?_
 rintro _ s2 ⟨w, a, m, TA, TM, lv, rfl, hW2, hA, hM, hst2⟩
 simp -implicitDefEqProofs (disch := omega) only [allW, allR, oneOf, evalAll, partsA, optA, Nat.reduceLT, Nat.reduceLeDiff, Nat.reduceEqDiff, Nat.reduceAdd, ↓reduceIte, allW, allR, wfn_ret, wfn_normal, oneOf, evalAll, partsA, optA, Nat.reduceLT, Nat.reduceLeDiff, Nat.reduceEqDiff, Nat.reduceAdd, ↓reduceIte, hn, h0, wf3, wk_list hW2.thing htl, Try.results10]
 exact ⟨hW2.list, fun i hi => Nat.le_trans n1 (hW2.hl i hi), hst1.trans (hst2.weaken n1)⟩
end Go.Proofs.Ythlbahnfimigcaa
namespace Go.Cl
end Go.Cl
namespace Go.Cl
theorem valEqL_all : ∀ {l : List Value}, valEqL l l = true -> ∀ v ∈ l, valEq1 v v = true
 | v :: l, h, w, hw => by
  simp only [valEqL, Bool.and_eq_true] at h
  rcases List.mem_cons.1 hw with rfl | hw
  ·exact h.1
  ·exact valEqL_all h.2 w hw
theorem valEqL_self : ∀ {l : List Value}, (∀ v ∈ l, valEq1 v v = true) -> valEqL l l = true
 | [], _ => rfl
 | v :: l, h => by
  simp only [valEqL, Bool.and_eq_true]
  exact ⟨h v (List.mem_cons_self ..), valEqL_self (fun w hw => h w (List.mem_cons_of_mem _ hw))⟩
theorem DocIs.self {F : Nat -> Prop} {s : ASt} {mv iv : Value} {tc ic : List Value} {D : Dc} (h : DocIs F s mv tc iv ic D) : valEq (.agg (docC D mv tc iv).toArray) (.agg (docC D mv tc iv).toArray) = true := by
 show valEqL (docC D mv tc iv) (docC D mv tc iv) = true
 have ht : valEqL tc tc = true := h.trailer.self
 refine valEqL_self (fun v hv => ?_)
 simp only [docC, List.mem_cons, List.mem_append, List.not_mem_nil, or_false] at hv
 rcases hv with rfl | rfl | rfl | hv | rfl
 ·simp [valEq1]
 ·exact h.mark.self1
 ·simp [valEq1]
 ·exact valEqL_all ht v hv
 ·exact h.items.self1
theorem valEq_found {a : Array Value} (h : valEq (.agg a) (.agg a) = true) (b : Bool) : valEq (.tuple #[.agg a, .bool b]) (.tuple #[.agg a, .bool b]) = true := by
 have h : valEqL a.toList a.toList = true := h
 simp [valEq, valEqM, valEq2, valEq1, h]
end Go.Cl