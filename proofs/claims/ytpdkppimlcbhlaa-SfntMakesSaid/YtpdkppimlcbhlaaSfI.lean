/-
  Fonts in tables, the reference: the font that bytes are.
-/
import Derived.Test.YtpdkppimlcbhlaaSfH
set_option linter.unusedSimpArgs false
set_option linter.unusedVariables false
set_option maxRecDepth 100000
namespace Go.Cl
theorem makeVals {P : Program} {s : ASt} {t e : TypeId} {zv : Value} {k1 k2 : IntKind} {b8 : Nat} (hu : P.underlying t = some (.slice e)) (hsz : sizeB P e = some 1) (hz : zeroB P e = some zv) (hpl : plainV zv = true) (hzl : zv.cells.toList = [zv]) (hb : bytesB P e = some b8) {n : Nat} (hn : b8 * n ≤ 4294967296) (hn2 : n ≤ 4294967296) :
    makeSliceA P s t (.int k1 n) (.int k2 n) = newSlice s (List.replicate n zv) n 1 := by
  show (match P.underlying t, Value.int k1 (Int.ofNat n), Value.int k2 (Int.ofNat n) with
  | some (.slice e), .int _ (.ofNat l), .int _ (.ofNat c) =>
    match sizeB P e, zeroB P e, bytesB P e with
    | some n, some z, some by8 =>
      if Nat.ble l c && Nat.ble c 4294967296 && Nat.ble (by8 * c) 4294967296 && plainV z && Nat.beq z.cells.toList.length n then newSlice s (repeatL z.cells.toList l) l n else none
    | _, _, _ => none
  | _, _, _ => none) = _
  rw [hu]
  simp only [hsz, hz, hb]
  have hc : (Nat.ble n n && Nat.ble n 4294967296 && Nat.ble (b8 * n) 4294967296 && plainV zv && Nat.beq zv.cells.toList.length 1) = true := by
    simp only [Bool.and_eq_true, Nat.ble_eq]; exact ⟨⟨⟨⟨Nat.le_refl _, hn2⟩, hn⟩, hpl⟩, by rw [hzl]; rfl⟩
  rw [if_pos hc, hzl, repeatL_one]
namespace Sf
def seekR (R : List Row) (n : List UInt8) : Option (Nat × Nat) := (R.find? fun e => e.1 == n).map (·.2)
theorem look_seekR (l : List UInt8) (n : List UInt8) : ∀ R : List Row, lookT (bareR l R) n = (seekR R n).map fun e => (l.drop e.1).take e.2
  | [] => rfl
  | e :: R => by
    unfold lookT seekR bareR
    simp only [List.map_cons, List.find?_cons]
    by_cases h : e.1 = n
    · subst h; simp
    · have hb : (e.1 == n) = false := by simpa using h
      rw [hb]
      exact look_seekR l n R
theorem seekR_snoc (R : List Row) (e : Row) (n : List UInt8) : seekR (R ++ [e]) n = match seekR R n with | some y => some y | none => if e.1 = n then some e.2 else none := by
  unfold seekR
  rw [List.find?_append]
  cases h : R.find? fun e => e.1 == n with
  | some y => simp
  | none =>
    by_cases q : e.1 = n
    · subst q; simp
    · simp [q]
theorem seekR_mem {R : List Row} {n : List UInt8} {y : Nat × Nat} (h : seekR R n = some y) : ∃ e ∈ R, e.1 = n ∧ e.2 = y := by
  unfold seekR at h
  obtain ⟨e, he, rfl⟩ := Option.map_eq_some_iff.mp h
  have := List.find?_some he
  exact ⟨e, List.mem_of_find?_eq_some he, by simpa using this, rfl⟩
def cellR (x : Value) : Option (Nat × Nat) → Value
  | none => .slice none 0 0
  | some e => cutV x e
def mixT (x : Value) (R R' : List Row) (k : Nat) : List Value := (List.range 5).map fun j => cellR x (seekR (if j < k then R' else R) (nm j))
def mixH (R R' : List Row) (k : Nat) : List Value := (List.range 5).map fun j => .bool (seekR (if j < k then R' else R) (nm j)).isSome
theorem range_set {α : Type} (f : Nat → α) (n k : Nat) (v : α) : ((List.range n).map f).set k v = (List.range n).map fun j => if j = k then v else f j := by
  apply List.ext_getElem
  · simp
  · intro i h1 h2
    simp only [List.length_set, List.length_map, List.length_range] at h1
    rw [List.getElem_set]
    simp only [List.getElem_map, List.getElem_range]
    by_cases e : k = i
    · subst e; simp
    · rw [if_neg e, if_neg (fun q => e q.symm)]
theorem range_congr {α : Type} {f g : Nat → α} {n : Nat} (h : ∀ j, j < n → f j = g j) : (List.range n).map f = (List.range n).map g := by
  apply List.map_congr_left
  intro j hj
  exact h j (List.mem_range.mp hj)
theorem range_getD {f : Nat → Value} {n k : Nat} (h : k < n) : ((List.range n).map f).getD k undef = f k := by
  simp [List.getD, List.getElem?_map, List.getElem?_range h]
theorem mixT_set (x : Value) (R R' : List Row) (k : Nat) {y : Nat × Nat} (hy : seekR R' (nm k) = some y) : (mixT x R R' k).set k (cutV x y) = mixT x R R' (k + 1) := by
  unfold mixT
  rw [range_set]
  refine range_congr fun j hj => ?_
  by_cases e : j = k
  · subst e; rw [if_pos rfl, if_pos (by omega), hy]; rfl
  · rw [if_neg e]
    by_cases q : j < k
    · rw [if_pos q, if_pos (by omega)]
    · rw [if_neg q, if_neg (by omega)]
theorem mixH_set (R R' : List Row) (k : Nat) {y : Nat × Nat} (hy : seekR R' (nm k) = some y) : (mixH R R' k).set k (.bool true) = mixH R R' (k + 1) := by
  unfold mixH
  rw [range_set]
  refine range_congr fun j hj => ?_
  by_cases e : j = k
  · subst e; rw [if_pos rfl, if_pos (by omega), hy]; rfl
  · rw [if_neg e]
    by_cases q : j < k
    · rw [if_pos q, if_pos (by omega)]
    · rw [if_neg q, if_neg (by omega)]
theorem mix_same {x : Value} {R R' : List Row} {k : Nat} (h : seekR R' (nm k) = seekR R (nm k)) : mixT x R R' k = mixT x R R' (k + 1) ∧ mixH R R' k = mixH R R' (k + 1) := by
  constructor <;>
  · first | unfold mixT | unfold mixH
    refine range_congr fun j hj => ?_
    by_cases e : j = k
    · subst e; rw [if_neg (by omega), if_pos (by omega), h]
    · by_cases q : j < k
      · rw [if_pos q, if_pos (by omega)]
      · rw [if_neg q, if_neg (by omega)]
theorem mix_start (x : Value) (R R' : List Row) : mixT x R R' 0 = mixT x R R 5 ∧ mixH R R' 0 = mixH R R 5 := by
  constructor <;>
  · first | unfold mixT | unfold mixH
    refine range_congr fun j hj => ?_
    rw [if_neg (by omega), if_pos hj]
theorem mix_end (x : Value) (R R' : List Row) : mixT x R R' 5 = mixT x R' R' 5 ∧ mixH R R' 5 = mixH R' R' 5 := by
  constructor <;>
  · first | unfold mixT | unfold mixH
    refine range_congr fun j hj => ?_
    simp only [hj, if_true]
theorem mix_nil (x : Value) : mixT x [] [] 5 = List.replicate 5 (.slice none 0 0) ∧ mixH [] [] 5 = List.replicate 5 (.bool false) := ⟨rfl, rfl⟩
/-- Names come once. -/
theorem tabsF_nd {b : List UInt8} : ∀ (k i : Nat) (out T : List Tab), tabsF b k i out = .ok T → (out.map Prod.fst).Nodup → (T.map Prod.fst).Nodup := by
  intro k
  induction k with
  | zero => intro i out T h ho; rw [tabsF] at h; injection h with h; subst h; exact ho
  | succ k ih =>
    intro i out T h ho
    rw [tabsF] at h
    split at h
    · cases h
    · rename_i hc
      refine ih _ _ _ h ?_
      rw [List.map_append, List.nodup_append]
      refine ⟨ho, by simp, ?_⟩
      intro a ha c hc' e
      have : lookT out ((b.drop (12 + 16 * i)).take 4) = none := by
        cases hl : lookT out ((b.drop (12 + 16 * i)).take 4) with
        | none => rfl
        | some y => exact absurd (.inr (.inr (by rw [hl]; rfl))) hc
      rw [look_none_iff] at this
      obtain ⟨t, ht, rfl⟩ := List.mem_map.mp ha
      exact this t ht (by simpa [e] using hc')
theorem tabsX_nd {b : List UInt8} {T : List Tab} (h : tabsX b = .ok T) : (T.map Prod.fst).Nodup := by
  unfold tabsX at h
  split at h
  · cases h
  split at h
  · cases h
  split at h
  · cases h
  exact tabsF_nd _ _ _ _ h List.nodup_nil
theorem tabsF_count {b : List UInt8} : ∀ (k i : Nat) (out T : List Tab), tabsF b k i out = .ok T → T.length = out.length + k := by
  intro k
  induction k with
  | zero => intro i out T h; rw [tabsF] at h; injection h with h; subst h; rfl
  | succ k ih =>
    intro i out T h
    rw [tabsF] at h
    split at h
    · cases h
    · rw [ih _ _ _ h, List.length_append, List.length_singleton]; omega
theorem tabsX_count {b : List UInt8} {T : List Tab} (h : tabsX b = .ok T) : T.length < 65536 := by
  unfold tabsX at h
  split at h
  · cases h
  split at h
  · cases h
  split at h
  · cases h
  rw [tabsF_count _ _ _ _ h]
  have := half_lt b 4
  simpa using this
theorem nd_take {R : List Row} (h : (R.map Prod.fst).Nodup) {i : Nat} (hi : i < R.length) : seekR (R.take i) (R.getD i ([], 0, 0)).1 = none := by
  unfold seekR
  rw [Option.map_eq_none_iff, List.find?_eq_none]
  intro e he heq
  have heq : e.1 = (R.getD i ([], 0, 0)).1 := by simpa using heq
  have hg : R.getD i ([], 0, 0) = R[i] := by simp [List.getD, List.getElem?_eq_getElem hi]
  rw [hg] at heq
  rw [← List.take_append_drop i R, List.map_append, List.nodup_append] at h
  exact h.2.2 _ (List.mem_map_of_mem he) _ (List.mem_map_of_mem (a := R[i]) (by rw [List.drop_eq_getElem_cons hi]; exact List.mem_cons_self ..)) heq
theorem take_row {R : List Row} {i : Nat} (hi : i < R.length) : R.take (i + 1) = R.take i ++ [R.getD i ([], 0, 0)] := by
  rw [List.take_add_one, List.getElem?_eq_getElem hi]
  simp [List.getD, List.getElem?_eq_getElem hi]
end Sf
end Go.Cl
namespace Go.Proofs.Ytpdkppimlcbhlaa
open Go.Cl Go.Cl.Sf
theorem sfSzB : sizeB Try.prog 4 = some 1 := by kernel_rfl
theorem sfZB : zeroB Try.prog 4 = some (.bool false) := by kernel_rfl
theorem sfByB : bytesB Try.prog 4 = some 1 := by kernel_rfl
theorem sfAgB : isAggB Try.prog 4 = some false := by kernel_rfl
theorem sfBySl : bytesB Try.prog 27 = some 24 := by kernel_rfl
theorem rzFont : buildA Try.prog 72 [] = some (.agg #[.int .i64 0, .int .i64 0, .slice none 0 0, .slice none 0 0]) := by kernel_rfl
theorem rszFont : sizeB Try.prog 72 = some 4 := by kernel_rfl
theorem makeSl5 (s : ASt) : makeSliceA Try.prog s 64 (.int .i64 5) (.int .i64 5) = newSlice s (List.replicate 5 (.slice none 0 0)) 5 1 := makeVals Try.underlying64 szSl zSl rfl rfl sfBySl (n := 5) (by decide) (by decide)
theorem makeB5 (s : ASt) : makeSliceA Try.prog s 68 (.int .i64 5) (.int .i64 5) = newSlice s (List.replicate 5 (.bool false)) 5 1 := makeVals Try.underlying68 sfSzB sfZB rfl rfl sfByB (n := 5) (by decide) (by decide)
/-- A part of an argument stays what it is. -/
theorem low_cut {base : Nat} {s : ASt} {x : Value} {l : List UInt8} (hx : Low base s 1 x l.length (ofBytes l)) {p n : Nat} (h : p + n ≤ l.length) : Low base s 1 (cutV x (p, n)) ((l.drop p).take n).length (ofBytes ((l.drop p).take n)) := by
  intro s' k
  have := (hx s' k).cutB (lo := p) (hi := p + n) (by omega) h
  rw [show p + n - p = n by omega] at this
  exact this
def RReadX (base : Nat) (v : Value) (s' : ASt) : Except Nat Fnt → Prop
  | .error e => v = .tuple #[.pointer none, .int .i64 (e : Nat)]
  | .ok F => ∃ q, v = .tuple #[fptr q, .int .i64 0] ∧ FontIs base s' q F
set_option maxHeartbeats 32000000 in
theorem rreadfont_any (s : ASt) (x : Value) (l : List UInt8) (hx : Sees s 1 x l.length (ofBytes l)) (hlen : l.length ≤ 100000000) :
    Runs Try.prog libN 12 [x] s fun v s' => RReadX s.next v s' (fontX 8 l) ∧ Stay s.next s s' := by
  refine Runs.enter 176 Try.func12 rfl rfl rfl rfl ?_
  intro f hn hf
  have h0 : f.get 0 = x := hf 0
  clear hf
  simp (config := { maxSteps := 1000000, implicitDefEqProofs := false }) (disch := omega) only [allW, allR, oneOf, evalAll, partsA, optA, Nat.reduceLT, Nat.reduceLeDiff, Nat.reduceEqDiff, Nat.reduceAdd, ↓reduceIte, hn, h0]
  refine (rtables_any s x l hx hlen).mono ?_
  rintro v s1 ⟨hv, hst1⟩
  cases hr : tabsX l with
  | error e =>
    rw [hr] at hv
    rw [show v = _ from hv, fontX_err hr]
    have he := tabsX_err hr
    have d : ((e : Nat) : Int) ≠ 0 := by omega
    simp (config := { maxSteps := 1000000, implicitDefEqProofs := false }) (disch := omega) only [allW, allR, wfn_ret, wfn_normal, oneOf, evalAll, partsA, optA, Nat.reduceLT, Nat.reduceLeDiff, Nat.reduceEqDiff, Nat.reduceAdd, ↓reduceIte, hn, h0, extT0, extT1, bin_neq, decide_eq_true d, RReadX, Try.results12]
    exact hst1
  | ok T =>
  rw [hr] at hv
  obtain ⟨w, R, rfl, hTR, hin, hw, hwF⟩ := hv
  have hz : ¬ (0 : Int) ≠ 0 := by decide
  have hRl : R.length < 65536 := by have := tabsX_count hr; rw [hTR] at this; simpa [bareR] using this
  have hnd : (R.map Prod.fst).Nodup := by
    have := tabsX_nd hr
    rw [hTR] at this
    have e : (bareR l R).map Prod.fst = R.map Prod.fst := by simp [bareR]
    rwa [e] at this
  simp (config := { maxSteps := 1000000, implicitDefEqProofs := false }) (disch := omega) only [allW, allR, oneOf, evalAll, partsA, optA, Nat.reduceLT, Nat.reduceLeDiff, Nat.reduceEqDiff, Nat.reduceAdd, ↓reduceIte, hn, h0, extT0, extT1, bin_neq, decide_eq_false hz, buildV5 (a := .string { data := #[104, 101, 97, 100] }) (b := .string { data := #[104, 104, 101, 97] }) (c := .string { data := #[109, 97, 120, 112] }) (d := .string { data := #[104, 109, 116, 120] }) (g := .string { data := #[99, 109, 97, 112] }) Try.underlying52 sfSzStr sfZStr rfl ⟨_, rfl⟩ rfl rfl rfl rfl rfl]
  refine wstep_newSlice (by rfl) ?_
  intro nv s2 hnv hnvF hst2
  have hnv : Own s2 1 nv 5 strsV := hnv
  simp (config := { maxSteps := 1000000, implicitDefEqProofs := false }) (disch := omega) only [allW, allR, oneOf, evalAll, partsA, optA, Nat.reduceLT, Nat.reduceLeDiff, Nat.reduceEqDiff, Nat.reduceAdd, ↓reduceIte, hn, h0, makeSl5]
  refine wstep_newSlice (by rfl) ?_
  intro tv s3 htv htvF hst3
  simp (config := { maxSteps := 1000000, implicitDefEqProofs := false }) (disch := omega) only [allW, allR, oneOf, evalAll, partsA, optA, Nat.reduceLT, Nat.reduceLeDiff, Nat.reduceEqDiff, Nat.reduceAdd, ↓reduceIte, hn, h0, makeB5]
  refine wstep_newSlice (by rfl) ?_
  intro bv s4 hbv hbvF hst4
  have hn1 := hst1.next
  have hn2 := hst2.next
  have hn3 := hst3.next
  have hn4 := hst4.next
  have hnv4 := (hnv.keeps hst3).keeps hst4
  have htv4 := htv.keeps hst4
  have hw4 := ((hw.keeps hst2).keeps hst3).keeps hst4
  have hst14 : Stay s1.next s1 s4 := (hst2.trans (hst3.weaken hn2)).trans (hst4.weaken (by omega))
  have hst04 : Stay s.next s s4 := hst1.trans (hst14.weaken hn1)
  have htb : ∀ i, idOf tv = some i → idOf bv ≠ some i := fun i hi e => by have := hbvF i e; have := htv.idlt i hi; omega
  have htn : ∀ i, idOf tv = some i → s2.next ≤ i := htvF
  have hwl := hw.idlt
  have hnvl := hnv.idlt
  rw [show List.replicate 5 (Value.slice none 0 0) = mixT x [] [] 5 from rfl] at htv4
  rw [show List.replicate 5 (Value.bool false) = mixH [] [] 5 from rfl] at hbv
  simp (config := { maxSteps := 1000000, implicitDefEqProofs := false }) (disch := omega) only [allW, allR, oneOf, evalAll, partsA, optA, Nat.reduceLT, Nat.reduceLeDiff, Nat.reduceEqDiff, Nat.reduceAdd, ↓reduceIte, hn, h0]
  refine Comes.loopAt (fun z f t => ∃ i : Nat, z = R.length - i ∧ i ≤ R.length ∧ Own t 1 tv 5 (mixT x (R.take i) (R.take i) 5) ∧ Own t 1 bv 5 (mixH (R.take i) (R.take i) 5) ∧ Own t 1 nv 5 strsV ∧ Own t 2 w R.length (rowsR x R) ∧ Stay s2.next s4 t ∧ f.n = 176 ∧ f.get 4 = w ∧ f.get 6 = nv ∧ f.get 7 = tv ∧ f.get 8 = bv ∧ f.get 9 = .int .i64 (i : Nat))
    ⟨0, rfl, by omega, by rw [List.take_zero]; exact htv4, by rw [List.take_zero]; exact hbv, hnv4, hw4, Stay.refl _ _, by simp only [get_put, n_put, ↓reduceIte, Nat.reduceEqDiff, hn], by simp only [get_put, n_put, ↓reduceIte, Nat.reduceEqDiff], by simp only [get_put, n_put, ↓reduceIte, Nat.reduceEqDiff], by simp only [get_put, n_put, ↓reduceIte, Nat.reduceEqDiff], by simp only [get_put, n_put, ↓reduceIte, Nat.reduceEqDiff], by simp only [get_put, n_put, ↓reduceIte, Nat.reduceEqDiff]; rfl⟩ ?_
  clear hn h0 f htv4 hbv hnv4 hw4 hnv htv
  rintro z f t ⟨i, rfl, hi, htv, hbv, hnv, hw, hst, hn, h4, h6, h7, h8, h9⟩
  by_cases hlt : i < R.length
  · have d : (i : Int) < (R.length : Int) := by omega
    simp (config := { maxSteps := 1000000, implicitDefEqProofs := false }) (disch := omega) only [allW, allR, oneOf, evalAll, partsA, optA, Nat.reduceLT, Nat.reduceLeDiff, Nat.reduceEqDiff, Nat.reduceAdd, ↓reduceIte, hn, h4, h6, h7, h8, h9, hw.sees.lenA Try.underlying65, eq_true d]
    rw [(mix_start x (R.take i) (R.take (i + 1))).1.symm] at htv
    rw [(mix_start x (R.take i) (R.take (i + 1))).2.symm] at hbv
    refine Comes.loopOut (fun z f u => ∃ k : Nat, z = 5 - k ∧ k ≤ 5 ∧ Own u 1 tv 5 (mixT x (R.take i) (R.take (i + 1)) k) ∧ Own u 1 bv 5 (mixH (R.take i) (R.take (i + 1)) k) ∧ Own u 1 nv 5 strsV ∧ Own u 2 w R.length (rowsR x R) ∧ Stay s2.next s4 u ∧ f.n = 176 ∧ f.get 4 = w ∧ f.get 6 = nv ∧ f.get 7 = tv ∧ f.get 8 = bv ∧ f.get 9 = .int .i64 (i : Nat) ∧ f.get 10 = .int .i64 (k : Nat))
      (fun z f u => z = .exit 2 ∧ Own u 1 tv 5 (mixT x (R.take i) (R.take (i + 1)) 5) ∧ Own u 1 bv 5 (mixH (R.take i) (R.take (i + 1)) 5) ∧ Own u 1 nv 5 strsV ∧ Own u 2 w R.length (rowsR x R) ∧ Stay s2.next s4 u ∧ f.n = 176 ∧ f.get 4 = w ∧ f.get 6 = nv ∧ f.get 7 = tv ∧ f.get 8 = bv ∧ f.get 9 = .int .i64 (i : Nat))
      ⟨0, rfl, by omega, htv, hbv, hnv, hw, hst, by simp only [get_put, n_put, ↓reduceIte, Nat.reduceEqDiff, hn], by simp only [get_put, n_put, ↓reduceIte, Nat.reduceEqDiff, h4], by simp only [get_put, n_put, ↓reduceIte, Nat.reduceEqDiff, h6], by simp only [get_put, n_put, ↓reduceIte, Nat.reduceEqDiff, h7], by simp only [get_put, n_put, ↓reduceIte, Nat.reduceEqDiff, h8], by simp only [get_put, n_put, ↓reduceIte, Nat.reduceEqDiff, h9], by simp only [get_put, n_put, ↓reduceIte, Nat.reduceEqDiff]; rfl⟩ ?_ ?_
    · clear hn h4 h6 h7 h8 h9 f htv hbv hnv hw hst
      rintro Q hQ z f u ⟨k, rfl, hk, htv, hbv, hnv, hw, hst, hn, h4, h6, h7, h8, h9, h10⟩
      by_cases hk5 : k < 5
      rotate_left
      · obtain rfl : k = 5 := by omega
        have d : ¬ ((5 : Nat) : Int) < 5 := by omega
        simp (config := { maxSteps := 1000000, implicitDefEqProofs := false }) (disch := omega) only [allW, allR, oneOf, evalAll, partsA, optA, Nat.reduceLT, Nat.reduceLeDiff, Nat.reduceEqDiff, Nat.reduceAdd, ↓reduceIte, hn, h4, h6, h7, h8, h9, h10, eq_false d]
        exact hQ _ _ _ ⟨rfl, htv, hbv, hnv, hw, hst, by simp only [get_put, n_put, ↓reduceIte, Nat.reduceEqDiff, hn], by simp only [get_put, n_put, ↓reduceIte, Nat.reduceEqDiff, h4], by simp only [get_put, n_put, ↓reduceIte, Nat.reduceEqDiff, h6], by simp only [get_put, n_put, ↓reduceIte, Nat.reduceEqDiff, h7], by simp only [get_put, n_put, ↓reduceIte, Nat.reduceEqDiff, h8], by simp only [get_put, n_put, ↓reduceIte, Nat.reduceEqDiff, h9]⟩
      have d2 : (k : Int) < 5 := by omega
      have hix := hw.sees.indexAddr (P := Try.prog) (k := .i64) (x := (i : Int)) Try.underlying65 rszT (by omega) (by omega)
      rw [Int.toNat_natCast] at hix
      have hld := hw.sees.loadField (P := Try.prog) sfAgStr hlt (j := 0) (by omega)
      rw [rowsR_at hlt (by omega)] at hld
      have hld' : loadA Try.prog u 9 (plusPtr (elemPtr 2 w i) 0) = some (.string ⟨((R.getD i ([], 0, 0)).1).toArray⟩) := hld
      have hld1 := hw.sees.loadField (P := Try.prog) agSl hlt (j := 1) (by omega)
      rw [rowsR_at hlt (by omega)] at hld1
      have hld1' : loadA Try.prog u 27 (plusPtr (elemPtr 2 w i) 1) = some (cutV x (R.getD i ([], 0, 0)).2) := hld1
      have hnx := hnv.sees.indexAddr (P := Try.prog) (k := .i64) (x := (k : Int)) Try.underlying52 sfSzStr (by omega) (by omega)
      rw [Int.toNat_natCast] at hnx
      have hnl := hnv.sees.load1 (P := Try.prog) sfAgStr hk5
      rw [strsV_at hk5] at hnl
      have hs1 := seekR_snoc (R.take i) (R.getD i ([], 0, 0)) (nm k)
      rw [← take_row hlt] at hs1
      by_cases c : (R.getD i ([], 0, 0)).1 = nm k
      rotate_left
      · have hsame : seekR (R.take (i + 1)) (nm k) = seekR (R.take i) (nm k) := by
          rw [hs1, if_neg c]; cases seekR (R.take i) (nm k) <;> rfl
        obtain ⟨e1, e2⟩ := mix_same (x := x) hsame
        simp (config := { maxSteps := 1000000, implicitDefEqProofs := false }) (disch := omega) only [allW, allR, oneOf, evalAll, partsA, optA, Nat.reduceLT, Nat.reduceLeDiff, Nat.reduceEqDiff, Nat.reduceAdd, ↓reduceIte, hn, h4, h6, h7, h8, h9, h10, eq_true d2, hix, rtf0 hw.sees hlt, hld', hnx, hnl, eqlStr, decide_eq_false c, valEq_string, valEq_int, valEq_bool, valEq_elemPtr, valEq_plus, hw.self, hnv.self, wrapI]
        exact wround_next (5 - (k + 1)) (by omega) ⟨k + 1, rfl, by omega, by rw [← e1]; exact htv, by rw [← e2]; exact hbv, hnv, hw, hst, by simp only [get_put, n_put, ↓reduceIte, Nat.reduceEqDiff, hn], by simp only [get_put, n_put, ↓reduceIte, Nat.reduceEqDiff, h4], by simp only [get_put, n_put, ↓reduceIte, Nat.reduceEqDiff, h6], by simp only [get_put, n_put, ↓reduceIte, Nat.reduceEqDiff, h7], by simp only [get_put, n_put, ↓reduceIte, Nat.reduceEqDiff, h8], by simp only [get_put, n_put, ↓reduceIte, Nat.reduceEqDiff, h9], by simp only [get_put, n_put, ↓reduceIte, Nat.reduceEqDiff]; rfl⟩
      · have hnone := nd_take hnd hlt
        rw [c] at hnone
        rw [hnone, if_pos c] at hs1
        have htx := htv.sees.indexAddr (P := Try.prog) (k := .i64) (x := (k : Int)) Try.underlying64 szSl (by omega) (by omega)
        rw [Int.toNat_natCast] at htx
        have hbx := hbv.sees.indexAddr (P := Try.prog) (k := .i64) (x := (k : Int)) Try.underlying68 sfSzB (by omega) (by omega)
        rw [Int.toNat_natCast] at hbx
        have hm : R.getD i ([], 0, 0) ∈ R := by simp only [List.getD, List.getElem?_eq_getElem hlt, Option.getD_some]; exact List.getElem_mem _
        have hcu := (low_cut hx.low (hin _ hm)) u (hst04.trans (hst.weaken (by omega)))
        simp (config := { maxSteps := 1000000, implicitDefEqProofs := false }) (disch := omega) only [allW, allR, oneOf, evalAll, partsA, optA, Nat.reduceLT, Nat.reduceLeDiff, Nat.reduceEqDiff, Nat.reduceAdd, ↓reduceIte, hn, h4, h6, h7, h8, h9, h10, eq_true d2, hix, rtf0 hw.sees hlt, rtf1 hw.sees hlt, hld', hld1', hnx, hnl, htx, hbx, eqlStr, decide_eq_true c, valEq_string, valEq_int, valEq_bool, valEq_elemPtr, valEq_plus, hw.self, hnv.self, wrapI]
        refine wstep_storeElem szSl htv hk5 hcu.okCell ?_
        intro u1 htv1 hut1
        rw [mixT_set x _ _ k hs1] at htv1
        have hbv1 := hbv.turns hut1 (fun a ha e => htb a e ha)
        have hnv1 := hnv.turns hut1 (fun a ha e => by have := hnvl a ha; have := htn a e; omega)
        have hw1 := hw.turns hut1 (fun a ha e => by have := hwl a ha; have := htn a e; omega)
        simp (config := { maxSteps := 1000000, implicitDefEqProofs := false }) (disch := omega) only [allW, allR, oneOf, evalAll, partsA, optA, Nat.reduceLT, Nat.reduceLeDiff, Nat.reduceEqDiff, Nat.reduceAdd, ↓reduceIte, hn, h4, h6, h7, h8, h9, h10, hbx]
        refine wstep_storeElem sfSzB hbv1 hk5 rfl ?_
        intro u2 hbv2 hut2
        rw [mixH_set _ _ k hs1] at hbv2
        have htv2 := htv1.turns hut2 (fun a ha e => htb a ha e)
        have hnv2 := hnv1.turns hut2 (fun a ha e => by have := hnvl a ha; have := hbvF a e; omega)
        have hw2 := hw1.turns hut2 (fun a ha e => by have := hwl a ha; have := hbvF a e; omega)
        have hsn := hst.next
        have hst' : Stay s2.next s4 u2 := (hst.trans (hut1.keeps htn (by omega))).trans (hut2.keeps (fun a ha => by have := hbvF a ha; omega) (by have := hut1.next; omega))
        simp (config := { maxSteps := 1000000, implicitDefEqProofs := false }) (disch := omega) only [allW, allR, oneOf, evalAll, partsA, optA, Nat.reduceLT, Nat.reduceLeDiff, Nat.reduceEqDiff, Nat.reduceAdd, ↓reduceIte, hn, h4, h6, h7, h8, h9, h10, wrapI]
        exact wround_next (5 - (k + 1)) (by omega) ⟨k + 1, rfl, by omega, htv2, hbv2, hnv2, hw2, hst', by simp only [get_put, n_put, ↓reduceIte, Nat.reduceEqDiff, hn], by simp only [get_put, n_put, ↓reduceIte, Nat.reduceEqDiff, h4], by simp only [get_put, n_put, ↓reduceIte, Nat.reduceEqDiff, h6], by simp only [get_put, n_put, ↓reduceIte, Nat.reduceEqDiff, h7], by simp only [get_put, n_put, ↓reduceIte, Nat.reduceEqDiff, h8], by simp only [get_put, n_put, ↓reduceIte, Nat.reduceEqDiff, h9], by simp only [get_put, n_put, ↓reduceIte, Nat.reduceEqDiff]; rfl⟩
    clear hn h4 h6 h7 h8 h9 f htv hbv hnv hw hst
    rintro z f u ⟨rfl, htv, hbv, hnv, hw, hst, hn, h4, h6, h7, h8, h9⟩
    rw [(mix_end x (R.take i) (R.take (i + 1))).1] at htv
    rw [(mix_end x (R.take i) (R.take (i + 1))).2] at hbv
    simp (config := { maxSteps := 1000000, implicitDefEqProofs := false }) (disch := omega) only [allW, allR, oneOf, evalAll, partsA, optA, Nat.reduceLT, Nat.reduceLeDiff, Nat.reduceEqDiff, Nat.reduceAdd, ↓reduceIte, hn, h4, h6, h7, h8, h9, wrapI]
    exact wround_next (R.length - (i + 1)) (by omega) ⟨i + 1, rfl, by omega, htv, hbv, hnv, hw, hst, by simp only [get_put, n_put, ↓reduceIte, Nat.reduceEqDiff, hn], by simp only [get_put, n_put, ↓reduceIte, Nat.reduceEqDiff, h4], by simp only [get_put, n_put, ↓reduceIte, Nat.reduceEqDiff, h6], by simp only [get_put, n_put, ↓reduceIte, Nat.reduceEqDiff, h7], by simp only [get_put, n_put, ↓reduceIte, Nat.reduceEqDiff, h8], by simp only [get_put, n_put, ↓reduceIte, Nat.reduceEqDiff]; rfl⟩
  obtain rfl : i = R.length := by omega
  have d : ¬ (R.length : Int) < (R.length : Int) := by omega
  rw [List.take_length] at htv hbv
  have hls : ∀ n, lookT T n = (seekR R n).map fun e => (l.drop e.1).take e.2 := fun n => by rw [hTR]; exact look_seekR l n R
  simp (config := { maxSteps := 1000000, implicitDefEqProofs := false }) (disch := omega) only [allW, allR, oneOf, evalAll, partsA, optA, Nat.reduceLT, Nat.reduceLeDiff, Nat.reduceEqDiff, Nat.reduceAdd, ↓reduceIte, hn, h4, h6, h7, h8, h9, hw.sees.lenA Try.underlying65, eq_false d]
  refine Comes.loopAt (fun z f u => ∃ k : Nat, z = 5 - k ∧ k ≤ 5 ∧ (∀ j, j < k → (seekR R (nm j)).isSome) ∧ u = t ∧ f.n = 176 ∧ f.get 7 = tv ∧ f.get 8 = bv ∧ f.get 11 = .int .i64 (k : Nat))
    ⟨0, rfl, by omega, (fun j hj => by omega), rfl, by simp only [get_put, n_put, ↓reduceIte, Nat.reduceEqDiff, hn], by simp only [get_put, n_put, ↓reduceIte, Nat.reduceEqDiff, h7], by simp only [get_put, n_put, ↓reduceIte, Nat.reduceEqDiff, h8], by simp only [get_put, n_put, ↓reduceIte, Nat.reduceEqDiff]; rfl⟩ ?_
  clear hn h4 h6 h7 h8 h9 f
  rintro z f u ⟨k, rfl, hk, hall, rfl, hn, h7, h8, h11⟩
  by_cases hk5 : k < 5
  · have d2 : (k : Int) < 5 := by omega
    have hbx := hbv.sees.indexAddr (P := Try.prog) (k := .i64) (x := (k : Int)) Try.underlying68 sfSzB (by omega) (by omega)
    rw [Int.toNat_natCast] at hbx
    have hbl := hbv.sees.load1 (P := Try.prog) sfAgB hk5
    have hbl' : (mixH R R 5).getD k undef = .bool (seekR R (nm k)).isSome := by
      unfold mixH; rw [range_getD hk5]; simp
    rw [hbl'] at hbl
    cases hsk : seekR R (nm k) with
    | none =>
      rw [hsk, Option.isSome_none] at hbl
      simp (config := { maxSteps := 1000000, implicitDefEqProofs := false }) (disch := omega) only [allW, allR, wfn_ret, wfn_normal, oneOf, evalAll, partsA, optA, Nat.reduceLT, Nat.reduceLeDiff, Nat.reduceEqDiff, Nat.reduceAdd, ↓reduceIte, hn, h7, h8, h11, eq_true d2, hbx, hbl, un_not, Bool.not_false, Try.results12]
      rw [fontX_no hr 8 hk5 (by rw [hls, hsk]; rfl)]
      exact ⟨rfl, hst04.trans (hst.weaken (by omega))⟩
    | some y =>
      rw [hsk, Option.isSome_some] at hbl
      simp (config := { maxSteps := 1000000, implicitDefEqProofs := false }) (disch := omega) only [allW, allR, oneOf, evalAll, partsA, optA, Nat.reduceLT, Nat.reduceLeDiff, Nat.reduceEqDiff, Nat.reduceAdd, ↓reduceIte, hn, h7, h8, h11, eq_true d2, hbx, hbl, un_not, Bool.not_true, wrapI]
      refine wround_next (5 - (k + 1)) (by omega) ⟨k + 1, rfl, by omega, (fun j hj => ?_), rfl, by simp only [get_put, n_put, ↓reduceIte, Nat.reduceEqDiff, hn], by simp only [get_put, n_put, ↓reduceIte, Nat.reduceEqDiff, h7], by simp only [get_put, n_put, ↓reduceIte, Nat.reduceEqDiff, h8], by simp only [get_put, n_put, ↓reduceIte, Nat.reduceEqDiff]; rfl⟩
      by_cases hj' : j = k
      · rw [hj', hsk]; rfl
      · exact hall j (by omega)
  obtain rfl : k = 5 := by omega
  have d2 : ¬ ((5 : Nat) : Int) < 5 := by omega
  obtain ⟨y0, g0⟩ := Option.isSome_iff_exists.mp (hall 0 (by omega))
  obtain ⟨y1, g1⟩ := Option.isSome_iff_exists.mp (hall 1 (by omega))
  obtain ⟨y2, g2⟩ := Option.isSome_iff_exists.mp (hall 2 (by omega))
  obtain ⟨y3, g3⟩ := Option.isSome_iff_exists.mp (hall 3 (by omega))
  obtain ⟨y4, g4⟩ := Option.isSome_iff_exists.mp (hall 4 (by omega))
  have hlow : ∀ {k : Nat} {y : Nat × Nat}, seekR R (nm k) = some y → Low s.next s 1 (cutV x y) ((l.drop y.1).take y.2).length (ofBytes ((l.drop y.1).take y.2)) := fun h => by
    obtain ⟨e, he, _, rfl⟩ := seekR_mem h
    exact low_cut hx.low (hin e he)
  have hel : ∀ {k : Nat} {y : Nat × Nat}, k < 5 → seekR R (nm k) = some y → (mixT x R R 5).getD k undef = cutV x y := fun hk h => by
    unfold mixT; rw [range_getD hk]; simp only [hk, if_true, h]; rfl
  have hstu : Stay s.next s u := hst04.trans (hst.weaken (by omega))
  have L0 := (hlow g0).stay hstu
  have L1 := (hlow g1).stay hstu
  have L2 := (hlow g2).stay hstu
  have L3 := (hlow g3).stay hstu
  have L4 := (hlow g4).stay hstu
  have G0 : lookT T nHead = some ((l.drop y0.1).take y0.2) := by rw [hls, show nHead = nm 0 from rfl, g0]; rfl
  have G1 : lookT T nHhea = some ((l.drop y1.1).take y1.2) := by rw [hls, show nHhea = nm 1 from rfl, g1]; rfl
  have G2 : lookT T nMaxp = some ((l.drop y2.1).take y2.2) := by rw [hls, show nMaxp = nm 2 from rfl, g2]; rfl
  have G3 : lookT T nHmtx = some ((l.drop y3.1).take y3.2) := by rw [hls, show nHmtx = nm 3 from rfl, g3]; rfl
  have G4 : lookT T nCmap = some ((l.drop y4.1).take y4.2) := by rw [hls, show nCmap = nm 4 from rfl, g4]; rfl
  have E0 := hel (by omega) g0
  have E1 := hel (by omega) g1
  have E2 := hel (by omega) g2
  have E3 := hel (by omega) g3
  have E4 := hel (by omega) g4
  clear g0 g1 g2 g3 g4 hel hlow hall hls hTR hin hnd
  have hxl : ∀ (y : Nat × Nat), ((l.drop y.1).take y.2).length ≤ 100000000 := fun y => by rw [List.length_take, List.length_drop]; omega
  have z0 := hxl y0
  have z1 := hxl y1
  have z2 := hxl y2
  have z3 := hxl y3
  have z4 := hxl y4
  obtain ⟨X0, hX0⟩ : ∃ X, X = (l.drop y0.1).take y0.2 := ⟨_, rfl⟩
  obtain ⟨X1, hX1⟩ : ∃ X, X = (l.drop y1.1).take y1.2 := ⟨_, rfl⟩
  obtain ⟨X2, hX2⟩ : ∃ X, X = (l.drop y2.1).take y2.2 := ⟨_, rfl⟩
  obtain ⟨X3, hX3⟩ : ∃ X, X = (l.drop y3.1).take y3.2 := ⟨_, rfl⟩
  obtain ⟨X4, hX4⟩ : ∃ X, X = (l.drop y4.1).take y4.2 := ⟨_, rfl⟩
  rw [← hX0] at L0 G0 z0
  rw [← hX1] at L1 G1 z1
  rw [← hX2] at L2 G2 z2
  rw [← hX3] at L3 G3 z3
  rw [← hX4] at L4 G4 z4
  have hyes := fontX_yes hr 8 G0 G1 G2 G3 G4
  clear hX0 hX1 hX2 hX3 hX4 G0 G1 G2 G3 G4 hxl
  have cF : (Value.agg #[.int .i64 0, .int .i64 0, .slice none 0 0, .slice none 0 0]).cells.toList = [.int .i64 0, .int .i64 0, .slice none 0 0, .slice none 0 0] := rfl
  simp (config := { maxSteps := 1000000, implicitDefEqProofs := false }) (disch := omega) only [allW, allR, oneOf, evalAll, partsA, optA, Nat.reduceLT, Nat.reduceLeDiff, Nat.reduceEqDiff, Nat.reduceAdd, ↓reduceIte, hn, h7, h8, h11, eq_false d2, rzFont, rszFont, cF]
  refine wstep_newPtr ?_
  intro u1 hq1 hst1' hnx1
  rw [fcells]
  obtain ⟨q, hq⟩ : ∃ q, q = u.next := ⟨_, rfl⟩
  rw [← hq] at hq1 ⊢
  have hstu1 : Stay s.next u u1 := hst1'.weaken hstu.next
  have hsnu := hstu.next
  have htv1 := htv.keeps hst1'
  have htvl := htv.idlt
  have L0 := L0.stay hstu1
  have L1 := L1.stay hstu1
  have L2 := L2.stay hstu1
  have L3 := L3.stay hstu1
  have L4 := L4.stay hstu1
  have hix : ∀ {t : ASt}, Own t 1 tv 5 (mixT x R R 5) → ∀ (k : Nat), k < 5 → indexAddrA Try.prog 64 tv (.int .i64 (k : Int)) = some (elemPtr 1 tv k) := fun h k hk => by
    have := h.sees.indexAddr (P := Try.prog) (k := .i64) (x := (k : Int)) Try.underlying64 szSl (by omega) (by omega)
    rwa [Int.toNat_natCast] at this
  have hix0 : indexAddrA Try.prog 64 tv (.int .i64 0) = some (elemPtr 1 tv 0) := hix htv 0 (by omega)
  have hix1 : indexAddrA Try.prog 64 tv (.int .i64 1) = some (elemPtr 1 tv 1) := hix htv 1 (by omega)
  have hix2 : indexAddrA Try.prog 64 tv (.int .i64 2) = some (elemPtr 1 tv 2) := hix htv 2 (by omega)
  have hix3 : indexAddrA Try.prog 64 tv (.int .i64 3) = some (elemPtr 1 tv 3) := hix htv 3 (by omega)
  have hix4 : indexAddrA Try.prog 64 tv (.int .i64 4) = some (elemPtr 1 tv 4) := hix htv 4 (by omega)
  have hl : ∀ {t : ASt}, Own t 1 tv 5 (mixT x R R 5) → ∀ (k : Nat), k < 5 → loadA Try.prog t 27 (elemPtr 1 tv k) = some ((mixT x R R 5).getD k undef) := fun h k hk => h.sees.load1 (P := Try.prog) agSl hk
  have hl0 := hl htv1 0 (by omega)
  have hl1 := hl htv1 1 (by omega)
  have hl2 := hl htv1 2 (by omega)
  rw [E0] at hl0
  rw [E1] at hl1
  rw [E2] at hl2
  obtain ⟨U, hU⟩ : ∃ n, n = half X0 18 := ⟨_, rfl⟩
  obtain ⟨G, hG⟩ : ∃ n, n = half X2 4 := ⟨_, rfl⟩
  obtain ⟨N, hN⟩ : ∃ n, n = half X1 34 := ⟨_, rfl⟩
  have hUl : U < 65536 := hU ▸ half_lt X0 18
  have hGl : G < 65536 := hG ▸ half_lt X2 4
  have hNl : N < 65536 := hN ▸ half_lt X1 34
  have hstq : Stay s.next s u1 := hstu.trans hstu1
  have hfail : ∀ (f : AFr) (t : ASt), f.n = 176 → badM X0 X1 X2 X3 → Stay s.next s t → f.get 2 = .pointer none → f.get 3 = .int .i64 4 → wfn Try.prog (Try.f12).results.toList (fun v s' => RReadX s.next v s' (fontX 8 l) ∧ Stay s.next s s') .ret f t := by
    intro f t hn hb hst h2 h3
    rw [if_pos hb] at hyes
    simp only [allW, allR, wfn_ret, wfn_normal, oneOf, evalAll, partsA, optA, Nat.reduceLT, Nat.reduceLeDiff, Nat.reduceEqDiff, Nat.reduceAdd, ↓reduceIte, hn, h2, h3, Try.results12]
    rw [hyes]
    exact ⟨rfl, hst⟩
  by_cases k1 : X0.length < 54
  · have e1 : (X0.length : Int) < 54 := by omega
    simp (config := { maxSteps := 1000000, implicitDefEqProofs := false }) (disch := omega) only [allW, allR, oneOf, evalAll, partsA, optA, Nat.reduceLT, Nat.reduceLeDiff, Nat.reduceEqDiff, Nat.reduceAdd, ↓reduceIte, undef, hn, h7, hix0, hl0, L0.sees.lenA Try.underlying27, eq_true e1]
    exact hfail _ _ (by simp only [get_put, n_put, ↓reduceIte, Nat.reduceEqDiff, hn]) (.inl k1) hstq (by simp only [get_put, n_put, ↓reduceIte, Nat.reduceEqDiff]) (by simp only [get_put, n_put, ↓reduceIte, Nat.reduceEqDiff])
  have e1 : ¬ (X0.length : Int) < 54 := by omega
  simp (config := { maxSteps := 1000000, implicitDefEqProofs := false }) (disch := omega) only [allW, allR, oneOf, evalAll, partsA, optA, Nat.reduceLT, Nat.reduceLeDiff, Nat.reduceEqDiff, Nat.reduceAdd, ↓reduceIte, undef, hn, h7, hix0, hl0, L0.sees.lenA Try.underlying27, eq_false e1]
  refine (rhalf_any u1 _ X0 18 L0.sees (by omega) (by omega)).mono ?_
  rintro _ t1 ⟨rfl, hs⟩; subst hs
  rw [← hU]
  by_cases k2 : U < 16
  · have e2 : (U : Int) < 16 := by omega
    simp (config := { maxSteps := 1000000, implicitDefEqProofs := false }) (disch := omega) only [allW, allR, oneOf, evalAll, partsA, optA, Nat.reduceLT, Nat.reduceLeDiff, Nat.reduceEqDiff, Nat.reduceAdd, ↓reduceIte, undef, hn, h7, eq_true e2]
    exact hfail _ _ (by simp only [get_put, n_put, ↓reduceIte, Nat.reduceEqDiff, hn]) (by unfold badM; rw [← hU]; simp [k2]) hstq (by simp only [get_put, n_put, ↓reduceIte, Nat.reduceEqDiff]) (by simp only [get_put, n_put, ↓reduceIte, Nat.reduceEqDiff])
  have e2 : ¬ (U : Int) < 16 := by omega
  simp (config := { maxSteps := 1000000, implicitDefEqProofs := false }) (disch := omega) only [allW, allR, oneOf, evalAll, partsA, optA, Nat.reduceLT, Nat.reduceLeDiff, Nat.reduceEqDiff, Nat.reduceAdd, ↓reduceIte, undef, hn, h7, eq_false e2, hix0, hl0]
  refine (rhalf_any t1 _ X0 18 L0.sees (by omega) (by omega)).mono ?_
  rintro _ t2 ⟨rfl, hs⟩; subst hs
  rw [← hU]
  by_cases k3 : 16384 < U
  · have e3 : (16384 : Int) < (U : Int) := by omega
    simp (config := { maxSteps := 1000000, implicitDefEqProofs := false }) (disch := omega) only [allW, allR, oneOf, evalAll, partsA, optA, Nat.reduceLT, Nat.reduceLeDiff, Nat.reduceEqDiff, Nat.reduceAdd, ↓reduceIte, undef, hn, h7, eq_true e3]
    exact hfail _ _ (by simp only [get_put, n_put, ↓reduceIte, Nat.reduceEqDiff, hn]) (by unfold badM; rw [← hU]; simp [k3]) hstq (by simp only [get_put, n_put, ↓reduceIte, Nat.reduceEqDiff]) (by simp only [get_put, n_put, ↓reduceIte, Nat.reduceEqDiff])
  have e3 : ¬ (16384 : Int) < (U : Int) := by omega
  by_cases k4 : X1.length < 36
  · have e4 : (X1.length : Int) < 36 := by omega
    simp (config := { maxSteps := 1000000, implicitDefEqProofs := false }) (disch := omega) only [allW, allR, oneOf, evalAll, partsA, optA, Nat.reduceLT, Nat.reduceLeDiff, Nat.reduceEqDiff, Nat.reduceAdd, ↓reduceIte, undef, hn, h7, eq_false e3, hix1, hl1, L1.sees.lenA Try.underlying27, eq_true e4]
    exact hfail _ _ (by simp only [get_put, n_put, ↓reduceIte, Nat.reduceEqDiff, hn]) (.inr (.inl k4)) hstq (by simp only [get_put, n_put, ↓reduceIte, Nat.reduceEqDiff]) (by simp only [get_put, n_put, ↓reduceIte, Nat.reduceEqDiff])
  have e4 : ¬ (X1.length : Int) < 36 := by omega
  simp (config := { maxSteps := 1000000, implicitDefEqProofs := false }) (disch := omega) only [allW, allR, oneOf, evalAll, partsA, optA, Nat.reduceLT, Nat.reduceLeDiff, Nat.reduceEqDiff, Nat.reduceAdd, ↓reduceIte, undef, hn, h7, eq_false e3, hix1, hl1, L1.sees.lenA Try.underlying27, eq_false e4]
  refine (rhalf_any t2 _ X1 34 L1.sees (by omega) (by omega)).mono ?_
  rintro _ t3 ⟨rfl, hs⟩; subst hs
  rw [← hN]
  by_cases k5 : N < 1
  · have e5 : (N : Int) < 1 := by omega
    simp (config := { maxSteps := 1000000, implicitDefEqProofs := false }) (disch := omega) only [allW, allR, oneOf, evalAll, partsA, optA, Nat.reduceLT, Nat.reduceLeDiff, Nat.reduceEqDiff, Nat.reduceAdd, ↓reduceIte, undef, hn, h7, eq_true e5]
    exact hfail _ _ (by simp only [get_put, n_put, ↓reduceIte, Nat.reduceEqDiff, hn]) (by unfold badM; rw [← hN]; simp [k5]) hstq (by simp only [get_put, n_put, ↓reduceIte, Nat.reduceEqDiff]) (by simp only [get_put, n_put, ↓reduceIte, Nat.reduceEqDiff])
  have e5 : ¬ (N : Int) < 1 := by omega
  by_cases k6 : X2.length < 6
  · have e6 : (X2.length : Int) < 6 := by omega
    simp (config := { maxSteps := 1000000, implicitDefEqProofs := false }) (disch := omega) only [allW, allR, oneOf, evalAll, partsA, optA, Nat.reduceLT, Nat.reduceLeDiff, Nat.reduceEqDiff, Nat.reduceAdd, ↓reduceIte, undef, hn, h7, eq_false e5, hix2, hl2, L2.sees.lenA Try.underlying27, eq_true e6]
    exact hfail _ _ (by simp only [get_put, n_put, ↓reduceIte, Nat.reduceEqDiff, hn]) (.inr (.inr (.inl k6))) hstq (by simp only [get_put, n_put, ↓reduceIte, Nat.reduceEqDiff]) (by simp only [get_put, n_put, ↓reduceIte, Nat.reduceEqDiff])
  have e6 : ¬ (X2.length : Int) < 6 := by omega
  simp (config := { maxSteps := 1000000, implicitDefEqProofs := false }) (disch := omega) only [allW, allR, oneOf, evalAll, partsA, optA, Nat.reduceLT, Nat.reduceLeDiff, Nat.reduceEqDiff, Nat.reduceAdd, ↓reduceIte, undef, hn, h7, eq_false e5, hix2, hl2, L2.sees.lenA Try.underlying27, eq_false e6, hix0, hl0]
  refine (rhalf_any t3 _ X0 18 L0.sees (by omega) (by omega)).mono ?_
  rintro _ t4 ⟨rfl, hs⟩; subst hs
  rw [← hU]
  simp (config := { maxSteps := 1000000, implicitDefEqProofs := false }) (disch := omega) only [allW, allR, oneOf, evalAll, partsA, optA, Nat.reduceLT, Nat.reduceLeDiff, Nat.reduceEqDiff, Nat.reduceAdd, ↓reduceIte, undef, hn, h7, rf0, Nat.add_zero]
  refine wstep_store szInt hq1 (off := 0) (c := 5) rfl (by simp) rfl ?_
  intro t5 hq5 hnx5 hot5
  have hc5 : CTo [q] t4 t5 := CTo.ofPut hnx5 hot5 (List.mem_singleton.mpr rfl)
  have hq0 : ∀ i ∈ [q], s.next ≤ i := fun i hi => by rw [List.mem_singleton.mp hi]; omega
  have hqtv : ∀ i, idOf tv = some i → i ∉ [q] := fun i hi hm => by have := htvl i hi; have := List.mem_singleton.mp hm; omega
  have hst5 := hc5.keeps hq0 hstq.next
  have L1 := L1.stay hst5
  have L2 := L2.stay hst5
  have L3 := L3.stay hst5
  have L4 := L4.stay hst5
  have htv5 := htv1.cto hc5 hqtv
  have hl15 := hl htv5 1 (by omega)
  have hl25 := hl htv5 2 (by omega)
  rw [E1] at hl15
  rw [E2] at hl25
  simp (config := { maxSteps := 1000000, implicitDefEqProofs := false }) (disch := omega) only [allW, allR, oneOf, evalAll, partsA, optA, Nat.reduceLT, Nat.reduceLeDiff, Nat.reduceEqDiff, Nat.reduceAdd, ↓reduceIte, undef, hn, h7, hix1, hl15]
  refine (rhalf_any t5 _ X1 34 L1.sees (by omega) (by omega)).mono ?_
  rintro _ t6 ⟨rfl, hs⟩; subst hs
  rw [← hN]
  simp (config := { maxSteps := 1000000, implicitDefEqProofs := false }) (disch := omega) only [allW, allR, oneOf, evalAll, partsA, optA, Nat.reduceLT, Nat.reduceLeDiff, Nat.reduceEqDiff, Nat.reduceAdd, ↓reduceIte, undef, hn, h7, hix2, hl25]
  refine (rhalf_any t6 _ X2 4 L2.sees (by omega) (by omega)).mono ?_
  rintro _ t7 ⟨rfl, hs⟩; subst hs
  rw [← hG]
  simp (config := { maxSteps := 1000000, implicitDefEqProofs := false }) (disch := omega) only [allW, allR, oneOf, evalAll, partsA, optA, Nat.reduceLT, Nat.reduceLeDiff, Nat.reduceEqDiff, Nat.reduceAdd, ↓reduceIte, undef, hn, h7, rf1, Nat.zero_add]
  refine wstep_store szInt hq5 (off := 1) (c := 5) rfl (by simp) rfl ?_
  intro t8 hq8 hnx8 hot8
  have hc8 : CTo [q] t7 t8 := CTo.ofPut hnx8 hot8 (List.mem_singleton.mpr rfl)
  have hst8 := hc8.keeps hq0 (by have := hstq.next; omega)
  have L3 := L3.stay hst8
  have L4 := L4.stay hst8
  have htv8 := htv5.cto hc8 hqtv
  have hl38 := hl htv8 3 (by omega)
  rw [E3] at hl38
  have hq8 : Thing t8 q [.int .i64 (U : Nat), .int .i64 (G : Nat), .slice none 0 0, .slice none 0 0] := hq8
  have lq1 := hq8.load (P := Try.prog) agInt (off := 1) (c := 5) rfl (by simp)
  have hst8s : Stay s.next s t8 := (hstq.trans hst5).trans hst8
  by_cases k7 : G < N
  · simp (config := { maxSteps := 1000000, implicitDefEqProofs := false }) (disch := omega) only [allW, allR, oneOf, evalAll, partsA, optA, Nat.reduceLT, Nat.reduceLeDiff, Nat.reduceEqDiff, Nat.reduceAdd, ↓reduceIte, undef, hn, h7, rf1, Nat.zero_add, lq1, eq_true k7, valEq_pointer, valEq_int, valEq_bool]
    exact hfail _ _ (by simp only [get_put, n_put, ↓reduceIte, Nat.reduceEqDiff, hn]) (by unfold badM; rw [← hG, ← hN]; simp [k7]) hst8s (by simp only [get_put, n_put, ↓reduceIte, Nat.reduceEqDiff]) (by simp only [get_put, n_put, ↓reduceIte, Nat.reduceEqDiff])
  by_cases k8 : X3.length < 4 * N + 2 * (G - N)
  · have e8 : (X3.length : Int) < 4 * (N : Int) + 2 * ((G : Int) - (N : Int)) := by omega
    simp (config := { maxSteps := 1000000, implicitDefEqProofs := false }) (disch := omega) only [allW, allR, oneOf, evalAll, partsA, optA, Nat.reduceLT, Nat.reduceLeDiff, Nat.reduceEqDiff, Nat.reduceAdd, ↓reduceIte, undef, hn, h7, rf1, Nat.zero_add, lq1, eq_false k7, hix3, hl38, L3.sees.lenA Try.underlying27, htv8.self, L3.sees.self, valEq_elemPtr, valEq_pointer, valEq_int, valEq_bool, eq_true e8, wrapI]
    exact hfail _ _ (by simp only [get_put, n_put, ↓reduceIte, Nat.reduceEqDiff, hn]) (by unfold badM; rw [← hG, ← hN]; simp [k8]) hst8s (by simp only [get_put, n_put, ↓reduceIte, Nat.reduceEqDiff]) (by simp only [get_put, n_put, ↓reduceIte, Nat.reduceEqDiff])
  have e8 : ¬ (X3.length : Int) < 4 * (N : Int) + 2 * ((G : Int) - (N : Int)) := by omega
  simp (config := { maxSteps := 1000000, implicitDefEqProofs := false }) (disch := omega) only [allW, allR, oneOf, evalAll, partsA, optA, Nat.reduceLT, Nat.reduceLeDiff, Nat.reduceEqDiff, Nat.reduceAdd, ↓reduceIte, undef, hn, h7, rf1, Nat.zero_add, lq1, eq_false k7, hix3, hl38, L3.sees.lenA Try.underlying27, htv8.self, L3.sees.self, valEq_elemPtr, valEq_pointer, valEq_int, valEq_bool, eq_false e8, wrapI]
  have hgood : ¬ badM X0 X1 X2 X3 := by unfold badM; rw [← hU, ← hG, ← hN]; simp only [k1, k2, k3, k4, k5, k6, k7, k8, or_self, not_false_eq_true]
  rw [if_neg hgood] at hyes
  refine Comes.loopAt (fun z f t => ∃ (k : Nat) (wv : Value), z = N - k ∧ k ≤ N ∧ Thing t q [.int .i64 (U : Nat), .int .i64 (G : Nat), wv, .slice none 0 0] ∧ Own t 1 wv k (natsV ((List.range k).map fun i => half X3 (4 * i))) ∧ Fresh t8.next wv ∧ Own t 1 tv 5 (mixT x R R 5) ∧ CTo [q] t8 t ∧ f.n = 176 ∧ f.get 7 = tv ∧ f.get 12 = fptr q ∧ f.get 13 = .int .i64 (N : Nat) ∧ f.get 14 = .int .i64 (k : Nat))
    ⟨0, .slice none 0 0, rfl, by omega, hq8, .nil, Fresh.nil _, htv8, CTo.refl _ _, by simp only [get_put, n_put, ↓reduceIte, Nat.reduceEqDiff, hn], by simp only [get_put, n_put, ↓reduceIte, Nat.reduceEqDiff, h7], by simp only [get_put, n_put, ↓reduceIte, Nat.reduceEqDiff], by simp only [get_put, n_put, ↓reduceIte, Nat.reduceEqDiff], by simp only [get_put, n_put, ↓reduceIte, Nat.reduceEqDiff]; rfl⟩ ?_
  have hql8 := hq8.lt
  clear hn h7 h8 h11 f hfail hq8 htv8 hl38 lq1
  rintro z f t ⟨k, wv, rfl, hk, hqt, hwv, hwvF, htvt, hto, hn, h7, h12, h13, h14⟩
  have hstt : Stay s.next t8 t := hto.keeps hq0 hst8s.next
  have hnt := hto.next
  have hsn8 := hst8s.next
  by_cases hlt : k < N
  rotate_left
  · obtain rfl : k = N := by omega
    have d : ¬ (k : Int) < (k : Int) := by omega
    have hl4 := hl htvt 4 (by omega)
    rw [E4] at hl4
    simp (config := { maxSteps := 1000000, implicitDefEqProofs := false }) (disch := omega) only [allW, allR, oneOf, evalAll, partsA, optA, Nat.reduceLT, Nat.reduceLeDiff, Nat.reduceEqDiff, Nat.reduceAdd, ↓reduceIte, hn, h7, h12, h13, h14, eq_false d, hix4, hl4]
    refine (rcodes_any t q _ G wv _ X4 ((L4.stay hstt).up (by omega)) hqt z4).mono ?_
    intro v3 t9 hv3
    cases hc : cmapX 8 G X4 with
    | error e =>
      rw [hc] at hv3
      rw [← hG, hc] at hyes
      obtain ⟨rfl, hto9⟩ := hv3
      simp (config := { maxSteps := 1000000, implicitDefEqProofs := false }) (disch := omega) only [allW, allR, wfn_ret, wfn_normal, oneOf, evalAll, partsA, optA, Nat.reduceLT, Nat.reduceLeDiff, Nat.reduceEqDiff, Nat.reduceAdd, ↓reduceIte, hn, extT0, extT1, Try.results12]
      rw [hyes]
      exact ⟨rfl, (hst8s.trans hstt).trans (hto9.keeps hq0 (hst8s.trans hstt).next)⟩
    | ok m =>
      rw [hc] at hv3
      rw [← hG, hc, ← hU, ← hN] at hyes
      obtain ⟨rfl, hto9, g, hq9, hg, hgF⟩ := hv3
      simp (config := { maxSteps := 1000000, implicitDefEqProofs := false }) (disch := omega) only [allW, allR, wfn_ret, wfn_normal, oneOf, evalAll, partsA, optA, Nat.reduceLT, Nat.reduceLeDiff, Nat.reduceEqDiff, Nat.reduceAdd, ↓reduceIte, hn, extT0, extT1, Try.results12]
      rw [hyes]
      refine ⟨⟨q, rfl, by omega, wv, g, hq9, ?_, hg, fun i hi => by have := hwvF i hi; omega, fun i hi => by have := hgF i hi; omega⟩, (hst8s.trans hstt).trans (hto9.keeps hq0 (hst8s.trans hstt).next)⟩
      simp only [List.length_map, List.length_range]
      exact hwv.cto hto9 (fun i hi hm => by have := hwvF i hi; have := List.mem_singleton.mp hm; omega)
  have d : (k : Int) < (N : Int) := by omega
  simp (config := { maxSteps := 1000000, implicitDefEqProofs := false }) (disch := omega) only [allW, allR, oneOf, evalAll, partsA, optA, Nat.reduceLT, Nat.reduceLeDiff, Nat.reduceEqDiff, Nat.reduceAdd, ↓reduceIte, hn, h7, h12, h13, h14, eq_true d, wrapI]
  refine LB.Drawn.looseK (fun j => decide (j < t.next)) (fun j h => of_decide_eq_true h) 1 1 (by kernel_rfl) (by kernel_rfl) ?_
  have hsp := Stay.spare t 1
  have hnT : (spare t 1).next = t.next + 1 := spare_next _ _
  have hqs := hqt.keeps hsp
  have htvs := htvt.keeps hsp
  have lq2 := hqs.load (P := Try.prog) agInts (off := 2) (c := 5) rfl (by simp)
  have hl3 := hl htvs 3 (by omega)
  rw [E3] at hl3
  have hlq : ∀ o, LA.lowV (fun j => decide (j < t.next)) (some (.pointer (some ⟨q, o, some 5⟩))) = true := fun o => LA.lowV_ptr _ (by simp; omega)
  have hlt3 : LA.lowV (fun j => decide (j < t.next)) (some (elemPtr 1 tv 3)) = true := LA.lowV_elemOld htvt.sees (fun i hi => decide_eq_true hi) (by omega)
  have L3s := ((L3.stay hstt).stay (hsp.weaken (by omega : s.next ≤ t.next)))
  simp (config := { maxSteps := 1000000, implicitDefEqProofs := false }) (disch := omega) only [allW, allR, allL, allB, Nat.sub_self, Nat.add_one_sub_one, Nat.reduceSub, oneOf, evalAll, partsA, optA, Nat.reduceLT, Nat.reduceLeDiff, Nat.reduceEqDiff, Nat.reduceAdd, ↓reduceIte, hn, h7, h12, h13, h14, rf2, hlq, lq2, hix3, hl3, hlt3, htvt.self, hwv.self, L3s.sees.self, valEq_elemPtr, valEq_pointer, valEq_int, Nat.zero_add, wrapI]
  rw [show (4 * (k : Int)) = ((4 * k : Nat) : Int) by omega]
  refine (rhalf_any (spare t 1) _ X3 (4 * k) L3s.sees (by omega) (by omega)).mono ?_
  rintro _ ta ⟨rfl, hs⟩
  rw [hs]; clear hs ta
  refine ⟨fun _ => LA.StayA.refl _ _, ?_⟩
  simp (config := { maxSteps := 1000000, implicitDefEqProofs := false }) (disch := omega) only [allW, allR, allL, allB, Nat.sub_self, Nat.add_one_sub_one, Nat.reduceSub, oneOf, evalAll, partsA, optA, Nat.reduceLT, Nat.reduceLeDiff, Nat.reduceEqDiff, Nat.reduceAdd, ↓reduceIte, hn, h7, h12, h13, h14, build1 Try.underlying30 szInt zInt]
  refine LB.smake_newSlice (base := t.next) (by rfl) (by omega) (Nat.le_refl _) ?_
  intro bs tb hbs hid hstb hnxb hotb
  have hwvb := (hwv.keeps hsp).ofPut hnxb hotb (fun e => by have := hwv.idlt _ e; omega)
  have hqb := hqs.ofPut hnxb hotb (by omega)
  have htvb := htvs.ofPut hnxb hotb (fun e => by have := htvt.idlt _ e; omega)
  simp (config := { maxSteps := 1000000, implicitDefEqProofs := false }) (disch := omega) only [allW, allR, allL, allB, Nat.sub_self, Nat.add_one_sub_one, Nat.reduceSub, oneOf, evalAll, partsA, optA, Nat.reduceLT, Nat.reduceLeDiff, Nat.reduceEqDiff, Nat.reduceAdd, ↓reduceIte, hn, h7, h12, h13, h14]
  refine LB.sstep_append Try.underlying30 Try.underlying30 (.inl ⟨_, rfl⟩) szInt byInt zInt rfl hwvb hbs.sees.src rfl (by decide) rfl (by omega) (by omega) (base := t8.next) hwvF (by omega) (fun h => by simp at h) (fun j hj => by have := of_decide_eq_true hj; omega) ?_
  intro wv' tc hwvc hFc hutc hor
  have hwq : idOf wv ≠ some q := fun e => by have := hwvF _ e; omega
  have hwcq : idOf wv' ≠ some q := fun e => by have := hFc _ e; omega
  have htvw : ∀ i, idOf tv = some i → idOf wv ≠ some i := fun i hi e => by have := hwvF _ e; have := htvl i hi; omega
  have htvc := htvb.turns hutc htvw
  simp (config := { maxSteps := 1000000, implicitDefEqProofs := false }) (disch := omega) only [allW, allR, allL, allB, Nat.sub_self, Nat.add_one_sub_one, Nat.reduceSub, oneOf, evalAll, partsA, optA, Nat.reduceLT, Nat.reduceLeDiff, Nat.reduceEqDiff, Nat.reduceAdd, ↓reduceIte, hn, h7, h12, h13, h14, rf2, valEq_pointer, Nat.zero_add]
  refine LB.sstep_storeN szInts (by decide) (hqb.turns hutc hwq) (off := 2) (c := 5) rfl (vs := [wv']) hwvc.sees.cell1 rfl (by simp) (by simp [hwvc.sees.okCell]) (fun h => by simp at h) ?_
  intro td hqd hnxd hotd
  simp (config := { maxSteps := 1000000, implicitDefEqProofs := false }) (disch := omega) only [allW, allR, allL, allB, Nat.sub_self, Nat.add_one_sub_one, Nat.reduceSub, oneOf, evalAll, partsA, optA, Nat.reduceLT, Nat.reduceLeDiff, Nat.reduceEqDiff, Nat.reduceAdd, ↓reduceIte, hn, h7, h12, h13, h14, wrapI]
  have hnc := hutc.next
  have htod : CTo [q] t8 td := by
    refine ⟨by omega, fun j hj hnj => ?_⟩
    rw [hotd j (fun e => hnj (e ▸ List.mem_singleton.mpr rfl)), hutc.get j (by omega) (fun e => by have := hwvF _ e; omega), hotb j (by omega)]
    exact hto.get j hj hnj
  refine wround_next (N - (k + 1)) (by omega) ⟨k + 1, wv', rfl, by omega, hqd, ?_, hFc, htvc.ofPut hnxd hotd (fun e => by have := htvl _ e; omega), htod, by simp only [get_put, n_put, ↓reduceIte, Nat.reduceEqDiff, hn], by simp only [get_put, n_put, ↓reduceIte, Nat.reduceEqDiff, h7], by simp only [get_put, n_put, ↓reduceIte, Nat.reduceEqDiff, h12], by simp only [get_put, n_put, ↓reduceIte, Nat.reduceEqDiff, h13], by simp only [get_put, n_put, ↓reduceIte, Nat.reduceEqDiff]; rfl⟩
  rw [List.range_succ, List.map_append, List.map_cons, List.map_nil, natsV_snoc]
  exact hwvc.ofPut hnxd hotd hwcq
end Go.Proofs.Ytpdkppimlcbhlaa
