/-
  Fonts in tables, the reference: numbers, tables.
-/
import Derived.Test.YtpdkppimlcbhlaaSfF
set_option linter.unusedSimpArgs false
set_option linter.unusedVariables false
set_option maxRecDepth 100000
namespace Go.Cl
namespace Sf
/-- The reference's rows: names, places, sizes. -/
abbrev Row := List UInt8 × Nat × Nat
def cutV (x : Value) (e : Nat × Nat) : Value := cutS 1 x e.1 (e.1 + e.2)
def rowC (x : Value) (e : Row) : List Value := [.string ⟨e.1.toArray⟩, cutV x e.2]
def rowsR (x : Value) (R : List Row) : List Value := R.flatMap (rowC x)
def bareR (l : List UInt8) (R : List Row) : List Tab := R.map fun e => (e.1, (l.drop e.2.1).take e.2.2)
theorem rowsR_snoc (x : Value) (R : List Row) (e : Row) : rowsR x (R ++ [e]) = rowsR x R ++ rowC x e := by simp [rowsR]
theorem rowsR_at {x : Value} : ∀ {R : List Row} {i : Nat} (_ : i < R.length) {j : Nat} (_ : j < 2), (rowsR x R).getD (i * 2 + j) undef = (rowC x (R.getD i ([], 0, 0))).getD j undef
  | [], i, h, _, _ => by simp at h
  | e :: R, 0, h, j, hj => by
    have : j = 0 ∨ j = 1 := by omega
    rcases this with rfl | rfl <;> simp [rowsR, rowC]
  | e :: R, i + 1, h, j, hj => by
    have h1 : (rowsR x (e :: R)).getD ((i + 1) * 2 + j) undef = (rowsR x R).getD (i * 2 + j) undef := by
      rw [show (i + 1) * 2 + j = i * 2 + j + 2 by omega]
      simp [rowsR, rowC]
    rw [h1, rowsR_at (by simpa using h) hj]
    simp
def InR (l : List UInt8) (R : List Row) : Prop := ∀ e ∈ R, e.2.1 + e.2.2 ≤ l.length
theorem bareR_snoc (l : List UInt8) (R : List Row) (e : Row) : bareR l (R ++ [e]) = bareR l R ++ [(e.1, (l.drop e.2.1).take e.2.2)] := by simp [bareR]
/-- Is a name among the first so many? -/
theorem look_none_iff (T : List Tab) (n : List UInt8) : lookT T n = none ↔ ∀ e ∈ T, e.1 ≠ n := by
  unfold lookT
  rw [Option.map_eq_none_iff, List.find?_eq_none]
  constructor
  · intro h e he heq; exact h e he (by simpa using heq)
  · intro h e he; simpa using h e he
end Sf
end Go.Cl
namespace Go.Proofs.Ytpdkppimlcbhlaa
open Go.Cl Go.Cl.Sf
theorem rhalf_any (s : ASt) (x : Value) (l : List UInt8) (n : Nat) (hx : Sees s 1 x l.length (ofBytes l)) (hn0 : n + 2 ≤ l.length) (hlen : l.length ≤ 4294967296) :
    Runs Try.prog libN 28 [x, .int .i64 (n : Nat)] s fun v s' => v = .int .i64 (half l n : Nat) ∧ s' = s := by
  refine Runs.enter 11 Try.func28 rfl rfl rfl rfl ?_
  intro f hn hf
  have h0 : f.get 0 = x := hf 0
  have h1 : f.get 1 = .int .i64 (n : Nat) := hf 1
  clear hf
  have hsl := hx.sliceBoth (P := Try.prog) (k := .i64) (k2 := .i64) (x := (n : Int)) (y := (n : Int) + 2) Try.underlying27 szU8 (by omega) (by omega) (by omega)
  rw [Int.toNat_natCast, show ((n : Int) + 2).toNat = n + 2 by omega] at hsl
  have hc := hx.cutB (lo := n) (hi := n + 2) (by omega) (by omega)
  rw [show n + 2 - n = 2 by omega] at hc
  simp (config := { maxSteps := 1000000, implicitDefEqProofs := false }) (disch := omega) only [allW, allR, oneOf, evalAll, partsA, optA, Nat.reduceLT, Nat.reduceLeDiff, Nat.reduceEqDiff, Nat.reduceAdd, ↓reduceIte, hn, h0, h1, wrapI, hsl]
  refine (cnumber_any (lib := libN) rfl s _ _ hc (by rw [List.length_take]; omega)).mono ?_
  rintro _ s1 ⟨rfl, hs⟩; subst hs
  simp (config := { maxSteps := 1000000, implicitDefEqProofs := false }) (disch := omega) only [allW, allR, wfn_ret, wfn_normal, oneOf, evalAll, partsA, optA, Nat.reduceLT, Nat.reduceLeDiff, Nat.reduceEqDiff, Nat.reduceAdd, ↓reduceIte, hn, h0, h1, Try.results28]
  rfl
theorem rword_any (s : ASt) (x : Value) (l : List UInt8) (n : Nat) (hx : Sees s 1 x l.length (ofBytes l)) (hn0 : n + 4 ≤ l.length) (hlen : l.length ≤ 4294967296) :
    Runs Try.prog libN 44 [x, .int .i64 (n : Nat)] s fun v s' => v = .int .i64 (word l n : Nat) ∧ s' = s := by
  refine Runs.enter 11 Try.func44 rfl rfl rfl rfl ?_
  intro f hn hf
  have h0 : f.get 0 = x := hf 0
  have h1 : f.get 1 = .int .i64 (n : Nat) := hf 1
  clear hf
  have hsl := hx.sliceBoth (P := Try.prog) (k := .i64) (k2 := .i64) (x := (n : Int)) (y := (n : Int) + 4) Try.underlying27 szU8 (by omega) (by omega) (by omega)
  rw [Int.toNat_natCast, show ((n : Int) + 4).toNat = n + 4 by omega] at hsl
  have hc := hx.cutB (lo := n) (hi := n + 4) (by omega) (by omega)
  rw [show n + 4 - n = 4 by omega] at hc
  simp (config := { maxSteps := 1000000, implicitDefEqProofs := false }) (disch := omega) only [allW, allR, oneOf, evalAll, partsA, optA, Nat.reduceLT, Nat.reduceLeDiff, Nat.reduceEqDiff, Nat.reduceAdd, ↓reduceIte, hn, h0, h1, wrapI, hsl]
  refine (cnumber_any (lib := libN) rfl s _ _ hc (by rw [List.length_take]; omega)).mono ?_
  rintro _ s1 ⟨rfl, hs⟩; subst hs
  simp (config := { maxSteps := 1000000, implicitDefEqProofs := false }) (disch := omega) only [allW, allR, wfn_ret, wfn_normal, oneOf, evalAll, partsA, optA, Nat.reduceLT, Nat.reduceLeDiff, Nat.reduceEqDiff, Nat.reduceAdd, ↓reduceIte, hn, h0, h1, Try.results44]
  rfl
theorem rszT : sizeB Try.prog 70 = some 2 := by kernel_rfl
theorem rbyT : bytesB Try.prog 70 = some 40 := by kernel_rfl
theorem rzT : zeroB Try.prog 70 = some (.agg #[.string ⟨#[]⟩, .slice none 0 0]) := by kernel_rfl
theorem rbT (n : List UInt8) (v : Value) (hv : v.cells.toList = [v]) : buildA Try.prog 70 [(0, .string ⟨n.toArray⟩), (1, v)] = some (.agg #[.string ⟨n.toArray⟩, v]) := by
  unfold buildA; rw [Try.underlying70, rzT]
  have cs : ∀ b, (Value.string b).cells = #[.string b] := fun _ => rfl
  simp only [fillA, placeOf, hv]
  simp [sfSzStr, szSl, plainV, plain1, cells_agg, setAt, cs]
theorem rtf0 {s : ASt} {v : Value} {n : Nat} {l : List Value} (h : Sees s 2 v n l) {k : Nat} (hk : k < n) : fieldAddrA Try.prog 70 (elemPtr 2 v k) 0 = some (plusPtr (elemPtr 2 v k) 0) := by
  obtain ⟨i, off, c, e, _⟩ := h.cells hk
  rw [e]
  unfold fieldAddrA; rw [Try.underlying70]; simp [sfSzStr, szSl, plusPtr]
theorem rtf1 {s : ASt} {v : Value} {n : Nat} {l : List Value} (h : Sees s 2 v n l) {k : Nat} (hk : k < n) : fieldAddrA Try.prog 70 (elemPtr 2 v k) 1 = some (plusPtr (elemPtr 2 v k) 1) := by
  obtain ⟨i, off, c, e, _⟩ := h.cells hk
  rw [e]
  unfold fieldAddrA; rw [Try.underlying70]; simp [sfSzStr, szSl, plusPtr]
theorem eqlStr (a b : List UInt8) (t : TypeId) : binA Try.prog .eql t (.string ⟨a.toArray⟩) (.string ⟨b.toArray⟩) = some (.bool (decide (a = b))) := str_eql a b
def RTabX (base : Nat) (x : Value) (l : List UInt8) (v : Value) (s' : ASt) : Except Nat (List Tab) → Prop
  | .error e => v = .tuple #[.slice none 0 0, .int .i64 (e : Nat)]
  | .ok T => ∃ w R, v = .tuple #[w, .int .i64 0] ∧ T = bareR l R ∧ InR l R ∧ Own s' 2 w R.length (rowsR x R) ∧ Fresh base w
set_option maxHeartbeats 16000000 in
theorem rtables_any (s : ASt) (x : Value) (l : List UInt8) (hx : Sees s 1 x l.length (ofBytes l)) (hlen : l.length ≤ 100000000) :
    Runs Try.prog libN 27 [x] s fun v s' => RTabX s.next x l v s' (tabsX l) ∧ Stay s.next s s' := by
  refine Runs.enter 93 Try.func27 rfl rfl rfl rfl ?_
  intro f hn hf
  have h0 : f.get 0 = x := hf 0
  clear hf
  by_cases c1 : l.length < 12
  · have d1 : (l.length : Int) < 12 := by omega
    have hr : tabsX l = .error 2 := by unfold tabsX; rw [if_pos c1]
    simp (config := { maxSteps := 1000000, implicitDefEqProofs := false }) (disch := omega) only [allW, allR, wfn_ret, wfn_normal, oneOf, evalAll, partsA, optA, Nat.reduceLT, Nat.reduceLeDiff, Nat.reduceEqDiff, Nat.reduceAdd, ↓reduceIte, hn, h0, hx.lenA Try.underlying27, eq_true d1, Try.results27]
    rw [hr]
    exact ⟨rfl, Stay.refl _ _⟩
  have d1 : ¬ (l.length : Int) < 12 := by omega
  have q4 := (hx.cutB (lo := 0) (hi := 4) (by omega) (by omega)).str (P := Try.prog) (dst := 9) Try.underlying27 Try.underlying9 Try.underlying5
  rw [List.drop_zero, show 4 - 0 = 4 from rfl] at q4
  have hsl := hx.sliceHigh (P := Try.prog) (k := .i64) (y := 4) Try.underlying27 szU8 (by omega) (by omega)
  rw [show (4 : Int).toNat = 4 from rfl] at hsl
  have hsplit : (l.take 4 = [0, 1, 0, 0]) ∨ (l.take 4 ≠ [0, 1, 0, 0] ∧ l.take 4 = [116, 114, 117, 101]) ∨ (l.take 4 ≠ [0, 1, 0, 0] ∧ l.take 4 ≠ [116, 114, 117, 101]) := by
    by_cases k1 : l.take 4 = [116, 114, 117, 101] <;> by_cases k2 : l.take 4 = [0, 1, 0, 0] <;> simp [k1, k2]
  rcases hsplit with k1 | ⟨k1, k2⟩ | ⟨k1, k2⟩
  rotate_left 2
  · have hr : tabsX l = .error 4 := by unfold tabsX; rw [if_neg c1, if_pos ⟨k1, k2⟩]
    simp (config := { maxSteps := 1000000, implicitDefEqProofs := false }) (disch := omega) only [allW, allR, wfn_ret, wfn_normal, oneOf, evalAll, partsA, optA, Nat.reduceLT, Nat.reduceLeDiff, Nat.reduceEqDiff, Nat.reduceAdd, ↓reduceIte, undef, hn, h0, hx.lenA Try.underlying27, eq_false d1, hsl, q4, neqTrue, neqOne, decide_eq_true k1, decide_eq_true k2, Try.results27]
    rw [hr]
    exact ⟨rfl, Stay.refl _ _⟩
  all_goals
    have hkind : ¬ (l.take 4 ≠ [0, 1, 0, 0] ∧ l.take 4 ≠ [116, 114, 117, 101]) := by simp [k1, *]
  · have k1' : ¬ l.take 4 ≠ [0, 1, 0, 0] := fun h => h k1
    simp (config := { maxSteps := 1000000, implicitDefEqProofs := false }) (disch := omega) only [allW, allR, oneOf, evalAll, partsA, optA, Nat.reduceLT, Nat.reduceLeDiff, Nat.reduceEqDiff, Nat.reduceAdd, ↓reduceIte, undef, hn, h0, hx.lenA Try.underlying27, eq_false d1, hsl, q4, neqTrue, neqOne, decide_eq_false k1']
    have hn46 := hx.sliceBoth (P := Try.prog) (k := .i64) (k2 := .i64) (x := 4) (y := 6) Try.underlying27 szU8 (by omega) (by omega) (by omega)
    rw [show (4 : Int).toNat = 4 from rfl, show (6 : Int).toNat = 6 from rfl] at hn46
    have hc46 := hx.cutB (lo := 4) (hi := 6) (by omega) (by omega)
    simp (config := { maxSteps := 1000000, implicitDefEqProofs := false }) (disch := omega) only [allW, allR, oneOf, evalAll, partsA, optA, Nat.reduceLT, Nat.reduceLeDiff, Nat.reduceEqDiff, Nat.reduceAdd, ↓reduceIte, undef, hn, h0, hx.lenA Try.underlying27, hn46]
    refine (cnumber_any (lib := libN) rfl s _ _ hc46 (by rw [List.length_take]; omega)).mono ?_
    rintro _ s1 ⟨rfl, hs⟩; subst hs
    rw [show bigOf ((l.drop 4).take (6 - 4)) = half l 4 from rfl]
    obtain ⟨many, hmany⟩ : ∃ m, m = half l 4 := ⟨_, rfl⟩
    have hq : many < 65536 := hmany ▸ half_lt l 4
    rw [← hmany]
    by_cases c2 : l.length < 12 + 16 * many
    · have d2 : (l.length : Int) < 12 + 16 * (many : Int) := by omega
      have hr : tabsX l = .error 2 := by unfold tabsX; rw [if_neg c1, if_neg hkind, ← hmany, if_pos c2]
      simp (config := { maxSteps := 1000000, implicitDefEqProofs := false }) (disch := omega) only [allW, allR, wfn_ret, wfn_normal, oneOf, evalAll, partsA, optA, Nat.reduceLT, Nat.reduceLeDiff, Nat.reduceEqDiff, Nat.reduceAdd, ↓reduceIte, hn, h0, hx.lenA Try.underlying27, eq_true d2, wrapI, Try.results27]
      rw [hr]
      exact ⟨rfl, Stay.refl _ _⟩
    have d2 : ¬ (l.length : Int) < 12 + 16 * (many : Int) := by omega
    have htot : tabsX l = tabsF l many 0 [] := by unfold tabsX; rw [if_neg c1, if_neg hkind, ← hmany, if_neg c2]
    simp (config := { maxSteps := 1000000, implicitDefEqProofs := false }) (disch := omega) only [allW, allR, oneOf, evalAll, partsA, optA, Nat.reduceLT, Nat.reduceLeDiff, Nat.reduceEqDiff, Nat.reduceAdd, ↓reduceIte, undef, hn, h0, hx.lenA Try.underlying27, eq_false d2, wrapI]
    refine Comes.loopAt (fun q f t => ∃ (k : Nat) (w : Value) (R : List Row), q = many - k ∧ k ≤ many ∧ tabsX l = tabsF l (many - k) k (bareR l R) ∧ InR l R ∧ R.length = k ∧ Own t 2 w R.length (rowsR x R) ∧ Fresh s1.next w ∧ Stay s1.next s1 t ∧ f.n = 93 ∧ f.get 0 = x ∧ f.get 4 = .int .i64 (many : Nat) ∧ f.get 5 = w ∧ f.get 6 = .int .i64 (k : Nat))
      ⟨0, .slice none 0 0, [], rfl, by omega, htot, (fun e he => by cases he), rfl, .nil, Fresh.nil _, Stay.refl _ _, by simp only [get_put, n_put, ↓reduceIte, Nat.reduceEqDiff, hn], by simp only [get_put, n_put, ↓reduceIte, Nat.reduceEqDiff, h0], by simp only [get_put, n_put, ↓reduceIte, Nat.reduceEqDiff], by simp only [get_put, n_put, ↓reduceIte, Nat.reduceEqDiff], by simp only [get_put, n_put, ↓reduceIte, Nat.reduceEqDiff]; rfl⟩ ?_
    clear hn h0 f htot
    rintro q f t ⟨k, w, R, rfl, hk, htot, hin, hRk, hw, hwF, hst, hn, h0, h4, h5, h6⟩
    have hxt := hx.keeps hst
    by_cases c3 : k < many
    rotate_left
    · obtain rfl : k = many := by omega
      have d3 : ¬ (k : Int) < (k : Int) := by omega
      rw [Nat.sub_self, tabsF] at htot
      simp (config := { maxSteps := 1000000, implicitDefEqProofs := false }) (disch := omega) only [allW, allR, wfn_ret, wfn_normal, oneOf, evalAll, partsA, optA, Nat.reduceLT, Nat.reduceLeDiff, Nat.reduceEqDiff, Nat.reduceAdd, ↓reduceIte, hn, h0, h4, h5, h6, eq_false d3, Try.results27]
      rw [htot]
      exact ⟨⟨w, R, rfl, rfl, hin, hw, hwF⟩, hst⟩
    have d3 : (k : Int) < (many : Int) := by omega
    have hsl4 := hxt.sliceBoth (P := Try.prog) (k := .i64) (k2 := .i64) (x := 12 + 16 * (k : Int)) (y := 12 + 16 * (k : Int) + 4) Try.underlying27 szU8 (by omega) (by omega) (by omega)
    rw [show (12 + 16 * (k : Int)).toNat = 12 + 16 * k by omega, show (12 + 16 * (k : Int) + 4).toNat = 12 + 16 * k + 4 by omega] at hsl4
    have qn := (hxt.cutB (lo := 12 + 16 * k) (hi := 12 + 16 * k + 4) (by omega) (by omega)).str (P := Try.prog) (dst := 9) Try.underlying27 Try.underlying9 Try.underlying5
    rw [show 12 + 16 * k + 4 - (12 + 16 * k) = 4 by omega] at qn
    obtain ⟨nmk, hnmk⟩ : ∃ n, n = (l.drop (12 + 16 * k)).take 4 := ⟨_, rfl⟩
    rw [← hnmk] at qn
    rw [show many - k = (many - (k + 1)) + 1 by omega, tabsF, ← hnmk] at htot
    have hw8 := word_lt l (12 + 16 * k + 8)
    have hw12 := word_lt l (12 + 16 * k + 12)
    simp (config := { maxSteps := 1000000, implicitDefEqProofs := false }) (disch := omega) only [allW, allR, oneOf, evalAll, partsA, optA, Nat.reduceLT, Nat.reduceLeDiff, Nat.reduceEqDiff, Nat.reduceAdd, ↓reduceIte, undef, hn, h0, h4, h5, h6, eq_true d3, wrapI, hsl4, qn]
    rw [show (12 + 16 * (k : Int) + 8) = ((12 + 16 * k + 8 : Nat) : Int) by omega]
    refine (rword_any t x l (12 + 16 * k + 8) hxt (by omega) (by omega)).mono ?_
    rintro _ t1 ⟨rfl, hs⟩; subst hs
    obtain ⟨pl, hpl⟩ : ∃ p, p = word l (12 + 16 * k + 8) := ⟨_, rfl⟩
    rw [← hpl] at htot hw8 ⊢
    simp (config := { maxSteps := 1000000, implicitDefEqProofs := false }) (disch := omega) only [allW, allR, oneOf, evalAll, partsA, optA, Nat.reduceLT, Nat.reduceLeDiff, Nat.reduceEqDiff, Nat.reduceAdd, ↓reduceIte, undef, hn, h0, h4, h5, h6, wrapI]
    rw [show (12 + 16 * (k : Int) + 12) = ((12 + 16 * k + 12 : Nat) : Int) by omega]
    refine (rword_any t1 x l (12 + 16 * k + 12) hxt (by omega) (by omega)).mono ?_
    rintro _ t2 ⟨rfl, hs⟩; subst hs
    obtain ⟨sz, hsz⟩ : ∃ p, p = word l (12 + 16 * k + 12) := ⟨_, rfl⟩
    rw [← hsz] at htot hw12 ⊢
    have hfail : ∀ f : AFr, f.n = 93 → (l.length < pl ∨ l.length - pl < sz ∨ (lookT (bareR l R) nmk).isSome) → f.get 2 = .slice none 0 0 → f.get 3 = .int .i64 4 → wfn Try.prog (Try.f27).results.toList (fun v s' => RTabX s1.next x l v s' (tabsX l) ∧ Stay s1.next s1 s') .ret f t2 := by
      intro f hn hc h2 h3
      rw [if_pos hc] at htot
      simp only [allW, allR, wfn_ret, wfn_normal, oneOf, evalAll, partsA, optA, Nat.reduceLT, Nat.reduceLeDiff, Nat.reduceEqDiff, Nat.reduceAdd, ↓reduceIte, hn, h2, h3, htot, RTabX, Try.results27]
      exact ⟨rfl, hst⟩
    by_cases c4 : l.length < pl
    · simp (config := { maxSteps := 1000000, implicitDefEqProofs := false }) (disch := omega) only [allW, allR, oneOf, evalAll, partsA, optA, Nat.reduceLT, Nat.reduceLeDiff, Nat.reduceEqDiff, Nat.reduceAdd, ↓reduceIte, undef, hn, h0, h4, h5, h6, hxt.lenA Try.underlying27, eq_true c4, wrapI]
      exact hfail _ (by simp only [get_put, n_put, ↓reduceIte, Nat.reduceEqDiff, hn]) (.inl c4) (by simp only [get_put, n_put, ↓reduceIte, Nat.reduceEqDiff]) (by simp only [get_put, n_put, ↓reduceIte, Nat.reduceEqDiff])
    by_cases c5 : l.length - pl < sz
    · have d5 : (l.length : Int) - (pl : Int) < (sz : Int) := by omega
      simp (config := { maxSteps := 1000000, implicitDefEqProofs := false }) (disch := omega) only [allW, allR, oneOf, evalAll, partsA, optA, Nat.reduceLT, Nat.reduceLeDiff, Nat.reduceEqDiff, Nat.reduceAdd, ↓reduceIte, undef, hn, h0, h4, h5, h6, hxt.lenA Try.underlying27, eq_false c4, eq_true d5, wrapI]
      exact hfail _ (by simp only [get_put, n_put, ↓reduceIte, Nat.reduceEqDiff, hn]) (.inr (.inl c5)) (by simp only [get_put, n_put, ↓reduceIte, Nat.reduceEqDiff]) (by simp only [get_put, n_put, ↓reduceIte, Nat.reduceEqDiff])
    have d5 : ¬ (l.length : Int) - (pl : Int) < (sz : Int) := by omega
    simp (config := { maxSteps := 1000000, implicitDefEqProofs := false }) (disch := omega) only [allW, allR, oneOf, evalAll, partsA, optA, Nat.reduceLT, Nat.reduceLeDiff, Nat.reduceEqDiff, Nat.reduceAdd, ↓reduceIte, undef, hn, h0, h4, h5, h6, hxt.lenA Try.underlying27, eq_false c4, eq_false d5, wrapI]
    refine Comes.loopOut (fun z f u => ∃ j : Nat, z = R.length - j ∧ j ≤ R.length ∧ (∀ e ∈ R.take j, e.1 ≠ nmk) ∧ u = t2 ∧ f.n = 93 ∧ f.get 0 = x ∧ f.get 4 = .int .i64 (many : Nat) ∧ f.get 5 = w ∧ f.get 6 = .int .i64 (k : Nat) ∧ f.get 8 = .string ⟨nmk.toArray⟩ ∧ f.get 9 = .int .i64 (pl : Nat) ∧ f.get 10 = .int .i64 (sz : Nat) ∧ f.get 11 = .int .i64 (j : Nat))
      (fun z f u => u = t2 ∧ f.n = 93 ∧ ((z = .ret ∧ (lookT (bareR l R) nmk).isSome ∧ f.get 2 = .slice none 0 0 ∧ f.get 3 = .int .i64 4) ∨ (z = .exit 2 ∧ lookT (bareR l R) nmk = none ∧ f.get 0 = x ∧ f.get 4 = .int .i64 (many : Nat) ∧ f.get 5 = w ∧ f.get 6 = .int .i64 (k : Nat) ∧ f.get 8 = .string ⟨nmk.toArray⟩ ∧ f.get 9 = .int .i64 (pl : Nat) ∧ f.get 10 = .int .i64 (sz : Nat))))
      ⟨0, rfl, by omega, (fun e he => by simp at he), rfl, by simp only [get_put, n_put, ↓reduceIte, Nat.reduceEqDiff, hn], by simp only [get_put, n_put, ↓reduceIte, Nat.reduceEqDiff, h0], by simp only [get_put, n_put, ↓reduceIte, Nat.reduceEqDiff, h4], by simp only [get_put, n_put, ↓reduceIte, Nat.reduceEqDiff, h5], by simp only [get_put, n_put, ↓reduceIte, Nat.reduceEqDiff, h6], by simp only [get_put, n_put, ↓reduceIte, Nat.reduceEqDiff], by simp only [get_put, n_put, ↓reduceIte, Nat.reduceEqDiff], by simp only [get_put, n_put, ↓reduceIte, Nat.reduceEqDiff], by simp only [get_put, n_put, ↓reduceIte, Nat.reduceEqDiff]; rfl⟩ ?_ ?_
    · clear hn h0 h4 h5 h6 f
      rintro Q hQ z f u ⟨j, rfl, hj, hne, rfl, hn, h0, h4, h5, h6, h8, h9, h10, h11⟩
      by_cases hjl : j < R.length
      rotate_left
      · obtain rfl : j = R.length := by omega
        have d6 : ¬ (R.length : Int) < (R.length : Int) := by omega
        simp (config := { maxSteps := 1000000, implicitDefEqProofs := false }) (disch := omega) only [allW, allR, oneOf, evalAll, partsA, optA, Nat.reduceLT, Nat.reduceLeDiff, Nat.reduceEqDiff, Nat.reduceAdd, ↓reduceIte, undef, hn, h0, h4, h5, h6, h8, h9, h10, h11, hw.sees.lenA Try.underlying65, eq_false d6]
        refine hQ _ _ _ ⟨rfl, by simp only [get_put, n_put, ↓reduceIte, Nat.reduceEqDiff, hn], .inr ⟨rfl, ?_, by simp only [get_put, n_put, ↓reduceIte, Nat.reduceEqDiff, h0], by simp only [get_put, n_put, ↓reduceIte, Nat.reduceEqDiff, h4], by simp only [get_put, n_put, ↓reduceIte, Nat.reduceEqDiff, h5], by simp only [get_put, n_put, ↓reduceIte, Nat.reduceEqDiff, h6], by simp only [get_put, n_put, ↓reduceIte, Nat.reduceEqDiff, h8], by simp only [get_put, n_put, ↓reduceIte, Nat.reduceEqDiff, h9], by simp only [get_put, n_put, ↓reduceIte, Nat.reduceEqDiff, h10]⟩⟩
        rw [look_none_iff]
        intro e he
        obtain ⟨e', he', rfl⟩ := List.mem_map.mp he
        exact hne e' (by rw [List.take_length]; exact he')
      have d6 : (j : Int) < (R.length : Int) := by omega
      have hix := hw.sees.indexAddr (P := Try.prog) (k := .i64) (x := (j : Int)) Try.underlying65 rszT (by omega) (by omega)
      rw [Int.toNat_natCast] at hix
      have hld := hw.sees.loadField (P := Try.prog) sfAgStr hjl (j := 0) (by omega)
      rw [rowsR_at hjl (by omega)] at hld
      have hld' : loadA Try.prog u 9 (plusPtr (elemPtr 2 w j) 0) = some (.string ⟨((R.getD j ([], 0, 0)).1).toArray⟩) := hld
      by_cases c6 : (R.getD j ([], 0, 0)).1 = nmk
      · simp (config := { maxSteps := 1000000, implicitDefEqProofs := false }) (disch := omega) only [allW, allR, oneOf, evalAll, partsA, optA, Nat.reduceLT, Nat.reduceLeDiff, Nat.reduceEqDiff, Nat.reduceAdd, ↓reduceIte, undef, hn, h0, h4, h5, h6, h8, h9, h10, h11, hw.sees.lenA Try.underlying65, eq_true d6, hix, rtf0 hw.sees hjl, hld', eqlStr, decide_eq_true c6]
        refine hQ _ _ _ ⟨rfl, by simp only [get_put, n_put, ↓reduceIte, Nat.reduceEqDiff, hn], .inl ⟨rfl, ?_, by simp only [get_put, n_put, ↓reduceIte, Nat.reduceEqDiff], by simp only [get_put, n_put, ↓reduceIte, Nat.reduceEqDiff]⟩⟩
        cases hl : lookT (bareR l R) nmk with
        | some y => rfl
        | none =>
          rw [look_none_iff] at hl
          have hm : R.getD j ([], 0, 0) ∈ R := by simp only [List.getD, List.getElem?_eq_getElem hjl, Option.getD_some]; exact List.getElem_mem _
          exact absurd c6 (hl _ (List.mem_map_of_mem (f := fun e : Row => (e.1, (l.drop e.2.1).take e.2.2)) hm))
      · simp (config := { maxSteps := 1000000, implicitDefEqProofs := false }) (disch := omega) only [allW, allR, oneOf, evalAll, partsA, optA, Nat.reduceLT, Nat.reduceLeDiff, Nat.reduceEqDiff, Nat.reduceAdd, ↓reduceIte, undef, hn, h0, h4, h5, h6, h8, h9, h10, h11, hw.sees.lenA Try.underlying65, eq_true d6, hix, rtf0 hw.sees hjl, hld', eqlStr, decide_eq_false c6, wrapI]
        refine wround_next (R.length - (j + 1)) (by omega) ⟨j + 1, rfl, by omega, ?_, rfl, by simp only [get_put, n_put, ↓reduceIte, Nat.reduceEqDiff, hn], by simp only [get_put, n_put, ↓reduceIte, Nat.reduceEqDiff, h0], by simp only [get_put, n_put, ↓reduceIte, Nat.reduceEqDiff, h4], by simp only [get_put, n_put, ↓reduceIte, Nat.reduceEqDiff, h5], by simp only [get_put, n_put, ↓reduceIte, Nat.reduceEqDiff, h6], by simp only [get_put, n_put, ↓reduceIte, Nat.reduceEqDiff, h8], by simp only [get_put, n_put, ↓reduceIte, Nat.reduceEqDiff, h9], by simp only [get_put, n_put, ↓reduceIte, Nat.reduceEqDiff, h10], by simp only [get_put, n_put, ↓reduceIte, Nat.reduceEqDiff]; rfl⟩
        intro e he
        rw [List.take_add_one, List.getElem?_eq_getElem hjl] at he
        rcases List.mem_append.mp he with h | h
        · exact hne e h
        · have : e = R.getD j ([], 0, 0) := by simpa [List.getD, List.getElem?_eq_getElem hjl] using h
          rw [this]; exact c6
    clear hn h0 h4 h5 h6 f
    rintro z f u ⟨rfl, hn, (⟨rfl, hl, h2, h3⟩ | ⟨rfl, hl, h0, h4, h5, h6, h8, h9, h10⟩)⟩
    · simp (config := { maxSteps := 1000000, implicitDefEqProofs := false }) (disch := omega) only [allW, allR, oneOf, evalAll, partsA, optA, Nat.reduceLT, Nat.reduceLeDiff, Nat.reduceEqDiff, Nat.reduceAdd, ↓reduceIte]
      exact hfail f hn (.inr (.inr hl)) h2 h3
    rw [hl, if_neg (by simp [c4, c5])] at htot
    have hcs := hxt.cutB (lo := pl) (hi := pl + sz) (by omega) (by omega)
    have hslp := hxt.sliceBoth (P := Try.prog) (k := .i64) (k2 := .i64) (x := (pl : Int)) (y := (pl : Int) + (sz : Int)) Try.underlying27 szU8 (by omega) (by omega) (by omega)
    rw [Int.toNat_natCast, show ((pl : Int) + (sz : Int)).toNat = pl + sz by omega] at hslp
    simp (config := { maxSteps := 1000000, implicitDefEqProofs := false }) (disch := omega) only [allW, allR, oneOf, evalAll, partsA, optA, Nat.reduceLT, Nat.reduceLeDiff, Nat.reduceEqDiff, Nat.reduceAdd, ↓reduceIte, undef, hn, h0, h4, h5, h6, h8, h9, h10, wrapI, hslp, rbT nmk _ hcs.cell1, buildAgg1 (cs := #[.string ⟨nmk.toArray⟩, cutS 1 x pl (pl + sz)]) Try.underlying65 rszT rzT rfl rfl rfl (by decide)]
    refine wstep_append_lit Try.underlying65 rszT rbyT rzT rfl hw (by simp only [get_put, n_put, ↓reduceIte, Nat.reduceEqDiff]) (by decide) (by simp only [get_put, n_put, ↓reduceIte, Nat.reduceEqDiff, hn]; decide) (by simp only [get_put, n_put, ↓reduceIte, Nat.reduceEqDiff, hn]; decide) (by rfl) (by decide) (by simp only [List.all_cons, List.all_nil, hcs.okCell]; rfl) (by omega) (by omega) hwF hst.next ?_
    intro bs w' u2 hw2 hF2 hst2 hut2 hor
    simp (config := { maxSteps := 1000000, implicitDefEqProofs := false }) (disch := omega) only [allW, allR, oneOf, evalAll, partsA, optA, Nat.reduceLT, Nat.reduceLeDiff, Nat.reduceEqDiff, Nat.reduceAdd, ↓reduceIte, hn, h0, h4, h6, wrapI]
    rw [← bareR_snoc l R (nmk, pl, sz)] at htot
    refine wround_next (many - (k + 1)) (by omega) ⟨k + 1, w', R ++ [(nmk, pl, sz)], rfl, by omega, htot, ?_, by simp [hRk], ?_, hF2, hst.trans hst2, by simp only [get_put, n_put, ↓reduceIte, Nat.reduceEqDiff, hn], by simp only [get_put, n_put, ↓reduceIte, Nat.reduceEqDiff, h0], by simp only [get_put, n_put, ↓reduceIte, Nat.reduceEqDiff, h4], by simp only [get_put, n_put, ↓reduceIte, Nat.reduceEqDiff], by simp only [get_put, n_put, ↓reduceIte, Nat.reduceEqDiff]; rfl⟩
    · intro e he
      rcases List.mem_append.mp he with h | h
      · exact hin e h
      · rw [List.mem_singleton.mp h]; show pl + sz ≤ l.length; omega
    · rw [rowsR_snoc, List.length_append, List.length_singleton]
      exact hw2
  · have k2' : ¬ l.take 4 ≠ [116, 114, 117, 101] := fun h => h k2
    simp (config := { maxSteps := 1000000, implicitDefEqProofs := false }) (disch := omega) only [allW, allR, oneOf, evalAll, partsA, optA, Nat.reduceLT, Nat.reduceLeDiff, Nat.reduceEqDiff, Nat.reduceAdd, ↓reduceIte, undef, hn, h0, hx.lenA Try.underlying27, eq_false d1, hsl, q4, neqTrue, neqOne, decide_eq_true k1, decide_eq_false k2']
    have hn46 := hx.sliceBoth (P := Try.prog) (k := .i64) (k2 := .i64) (x := 4) (y := 6) Try.underlying27 szU8 (by omega) (by omega) (by omega)
    rw [show (4 : Int).toNat = 4 from rfl, show (6 : Int).toNat = 6 from rfl] at hn46
    have hc46 := hx.cutB (lo := 4) (hi := 6) (by omega) (by omega)
    simp (config := { maxSteps := 1000000, implicitDefEqProofs := false }) (disch := omega) only [allW, allR, oneOf, evalAll, partsA, optA, Nat.reduceLT, Nat.reduceLeDiff, Nat.reduceEqDiff, Nat.reduceAdd, ↓reduceIte, undef, hn, h0, hx.lenA Try.underlying27, hn46]
    refine (cnumber_any (lib := libN) rfl s _ _ hc46 (by rw [List.length_take]; omega)).mono ?_
    rintro _ s1 ⟨rfl, hs⟩; subst hs
    rw [show bigOf ((l.drop 4).take (6 - 4)) = half l 4 from rfl]
    obtain ⟨many, hmany⟩ : ∃ m, m = half l 4 := ⟨_, rfl⟩
    have hq : many < 65536 := hmany ▸ half_lt l 4
    rw [← hmany]
    by_cases c2 : l.length < 12 + 16 * many
    · have d2 : (l.length : Int) < 12 + 16 * (many : Int) := by omega
      have hr : tabsX l = .error 2 := by unfold tabsX; rw [if_neg c1, if_neg hkind, ← hmany, if_pos c2]
      simp (config := { maxSteps := 1000000, implicitDefEqProofs := false }) (disch := omega) only [allW, allR, wfn_ret, wfn_normal, oneOf, evalAll, partsA, optA, Nat.reduceLT, Nat.reduceLeDiff, Nat.reduceEqDiff, Nat.reduceAdd, ↓reduceIte, hn, h0, hx.lenA Try.underlying27, eq_true d2, wrapI, Try.results27]
      rw [hr]
      exact ⟨rfl, Stay.refl _ _⟩
    have d2 : ¬ (l.length : Int) < 12 + 16 * (many : Int) := by omega
    have htot : tabsX l = tabsF l many 0 [] := by unfold tabsX; rw [if_neg c1, if_neg hkind, ← hmany, if_neg c2]
    simp (config := { maxSteps := 1000000, implicitDefEqProofs := false }) (disch := omega) only [allW, allR, oneOf, evalAll, partsA, optA, Nat.reduceLT, Nat.reduceLeDiff, Nat.reduceEqDiff, Nat.reduceAdd, ↓reduceIte, undef, hn, h0, hx.lenA Try.underlying27, eq_false d2, wrapI]
    refine Comes.loopAt (fun q f t => ∃ (k : Nat) (w : Value) (R : List Row), q = many - k ∧ k ≤ many ∧ tabsX l = tabsF l (many - k) k (bareR l R) ∧ InR l R ∧ R.length = k ∧ Own t 2 w R.length (rowsR x R) ∧ Fresh s1.next w ∧ Stay s1.next s1 t ∧ f.n = 93 ∧ f.get 0 = x ∧ f.get 4 = .int .i64 (many : Nat) ∧ f.get 5 = w ∧ f.get 6 = .int .i64 (k : Nat))
      ⟨0, .slice none 0 0, [], rfl, by omega, htot, (fun e he => by cases he), rfl, .nil, Fresh.nil _, Stay.refl _ _, by simp only [get_put, n_put, ↓reduceIte, Nat.reduceEqDiff, hn], by simp only [get_put, n_put, ↓reduceIte, Nat.reduceEqDiff, h0], by simp only [get_put, n_put, ↓reduceIte, Nat.reduceEqDiff], by simp only [get_put, n_put, ↓reduceIte, Nat.reduceEqDiff], by simp only [get_put, n_put, ↓reduceIte, Nat.reduceEqDiff]; rfl⟩ ?_
    clear hn h0 f htot
    rintro q f t ⟨k, w, R, rfl, hk, htot, hin, hRk, hw, hwF, hst, hn, h0, h4, h5, h6⟩
    have hxt := hx.keeps hst
    by_cases c3 : k < many
    rotate_left
    · obtain rfl : k = many := by omega
      have d3 : ¬ (k : Int) < (k : Int) := by omega
      rw [Nat.sub_self, tabsF] at htot
      simp (config := { maxSteps := 1000000, implicitDefEqProofs := false }) (disch := omega) only [allW, allR, wfn_ret, wfn_normal, oneOf, evalAll, partsA, optA, Nat.reduceLT, Nat.reduceLeDiff, Nat.reduceEqDiff, Nat.reduceAdd, ↓reduceIte, hn, h0, h4, h5, h6, eq_false d3, Try.results27]
      rw [htot]
      exact ⟨⟨w, R, rfl, rfl, hin, hw, hwF⟩, hst⟩
    have d3 : (k : Int) < (many : Int) := by omega
    have hsl4 := hxt.sliceBoth (P := Try.prog) (k := .i64) (k2 := .i64) (x := 12 + 16 * (k : Int)) (y := 12 + 16 * (k : Int) + 4) Try.underlying27 szU8 (by omega) (by omega) (by omega)
    rw [show (12 + 16 * (k : Int)).toNat = 12 + 16 * k by omega, show (12 + 16 * (k : Int) + 4).toNat = 12 + 16 * k + 4 by omega] at hsl4
    have qn := (hxt.cutB (lo := 12 + 16 * k) (hi := 12 + 16 * k + 4) (by omega) (by omega)).str (P := Try.prog) (dst := 9) Try.underlying27 Try.underlying9 Try.underlying5
    rw [show 12 + 16 * k + 4 - (12 + 16 * k) = 4 by omega] at qn
    obtain ⟨nmk, hnmk⟩ : ∃ n, n = (l.drop (12 + 16 * k)).take 4 := ⟨_, rfl⟩
    rw [← hnmk] at qn
    rw [show many - k = (many - (k + 1)) + 1 by omega, tabsF, ← hnmk] at htot
    have hw8 := word_lt l (12 + 16 * k + 8)
    have hw12 := word_lt l (12 + 16 * k + 12)
    simp (config := { maxSteps := 1000000, implicitDefEqProofs := false }) (disch := omega) only [allW, allR, oneOf, evalAll, partsA, optA, Nat.reduceLT, Nat.reduceLeDiff, Nat.reduceEqDiff, Nat.reduceAdd, ↓reduceIte, undef, hn, h0, h4, h5, h6, eq_true d3, wrapI, hsl4, qn]
    rw [show (12 + 16 * (k : Int) + 8) = ((12 + 16 * k + 8 : Nat) : Int) by omega]
    refine (rword_any t x l (12 + 16 * k + 8) hxt (by omega) (by omega)).mono ?_
    rintro _ t1 ⟨rfl, hs⟩; subst hs
    obtain ⟨pl, hpl⟩ : ∃ p, p = word l (12 + 16 * k + 8) := ⟨_, rfl⟩
    rw [← hpl] at htot hw8 ⊢
    simp (config := { maxSteps := 1000000, implicitDefEqProofs := false }) (disch := omega) only [allW, allR, oneOf, evalAll, partsA, optA, Nat.reduceLT, Nat.reduceLeDiff, Nat.reduceEqDiff, Nat.reduceAdd, ↓reduceIte, undef, hn, h0, h4, h5, h6, wrapI]
    rw [show (12 + 16 * (k : Int) + 12) = ((12 + 16 * k + 12 : Nat) : Int) by omega]
    refine (rword_any t1 x l (12 + 16 * k + 12) hxt (by omega) (by omega)).mono ?_
    rintro _ t2 ⟨rfl, hs⟩; subst hs
    obtain ⟨sz, hsz⟩ : ∃ p, p = word l (12 + 16 * k + 12) := ⟨_, rfl⟩
    rw [← hsz] at htot hw12 ⊢
    have hfail : ∀ f : AFr, f.n = 93 → (l.length < pl ∨ l.length - pl < sz ∨ (lookT (bareR l R) nmk).isSome) → f.get 2 = .slice none 0 0 → f.get 3 = .int .i64 4 → wfn Try.prog (Try.f27).results.toList (fun v s' => RTabX s1.next x l v s' (tabsX l) ∧ Stay s1.next s1 s') .ret f t2 := by
      intro f hn hc h2 h3
      rw [if_pos hc] at htot
      simp only [allW, allR, wfn_ret, wfn_normal, oneOf, evalAll, partsA, optA, Nat.reduceLT, Nat.reduceLeDiff, Nat.reduceEqDiff, Nat.reduceAdd, ↓reduceIte, hn, h2, h3, htot, RTabX, Try.results27]
      exact ⟨rfl, hst⟩
    by_cases c4 : l.length < pl
    · simp (config := { maxSteps := 1000000, implicitDefEqProofs := false }) (disch := omega) only [allW, allR, oneOf, evalAll, partsA, optA, Nat.reduceLT, Nat.reduceLeDiff, Nat.reduceEqDiff, Nat.reduceAdd, ↓reduceIte, undef, hn, h0, h4, h5, h6, hxt.lenA Try.underlying27, eq_true c4, wrapI]
      exact hfail _ (by simp only [get_put, n_put, ↓reduceIte, Nat.reduceEqDiff, hn]) (.inl c4) (by simp only [get_put, n_put, ↓reduceIte, Nat.reduceEqDiff]) (by simp only [get_put, n_put, ↓reduceIte, Nat.reduceEqDiff])
    by_cases c5 : l.length - pl < sz
    · have d5 : (l.length : Int) - (pl : Int) < (sz : Int) := by omega
      simp (config := { maxSteps := 1000000, implicitDefEqProofs := false }) (disch := omega) only [allW, allR, oneOf, evalAll, partsA, optA, Nat.reduceLT, Nat.reduceLeDiff, Nat.reduceEqDiff, Nat.reduceAdd, ↓reduceIte, undef, hn, h0, h4, h5, h6, hxt.lenA Try.underlying27, eq_false c4, eq_true d5, wrapI]
      exact hfail _ (by simp only [get_put, n_put, ↓reduceIte, Nat.reduceEqDiff, hn]) (.inr (.inl c5)) (by simp only [get_put, n_put, ↓reduceIte, Nat.reduceEqDiff]) (by simp only [get_put, n_put, ↓reduceIte, Nat.reduceEqDiff])
    have d5 : ¬ (l.length : Int) - (pl : Int) < (sz : Int) := by omega
    simp (config := { maxSteps := 1000000, implicitDefEqProofs := false }) (disch := omega) only [allW, allR, oneOf, evalAll, partsA, optA, Nat.reduceLT, Nat.reduceLeDiff, Nat.reduceEqDiff, Nat.reduceAdd, ↓reduceIte, undef, hn, h0, h4, h5, h6, hxt.lenA Try.underlying27, eq_false c4, eq_false d5, wrapI]
    refine Comes.loopOut (fun z f u => ∃ j : Nat, z = R.length - j ∧ j ≤ R.length ∧ (∀ e ∈ R.take j, e.1 ≠ nmk) ∧ u = t2 ∧ f.n = 93 ∧ f.get 0 = x ∧ f.get 4 = .int .i64 (many : Nat) ∧ f.get 5 = w ∧ f.get 6 = .int .i64 (k : Nat) ∧ f.get 8 = .string ⟨nmk.toArray⟩ ∧ f.get 9 = .int .i64 (pl : Nat) ∧ f.get 10 = .int .i64 (sz : Nat) ∧ f.get 11 = .int .i64 (j : Nat))
      (fun z f u => u = t2 ∧ f.n = 93 ∧ ((z = .ret ∧ (lookT (bareR l R) nmk).isSome ∧ f.get 2 = .slice none 0 0 ∧ f.get 3 = .int .i64 4) ∨ (z = .exit 2 ∧ lookT (bareR l R) nmk = none ∧ f.get 0 = x ∧ f.get 4 = .int .i64 (many : Nat) ∧ f.get 5 = w ∧ f.get 6 = .int .i64 (k : Nat) ∧ f.get 8 = .string ⟨nmk.toArray⟩ ∧ f.get 9 = .int .i64 (pl : Nat) ∧ f.get 10 = .int .i64 (sz : Nat))))
      ⟨0, rfl, by omega, (fun e he => by simp at he), rfl, by simp only [get_put, n_put, ↓reduceIte, Nat.reduceEqDiff, hn], by simp only [get_put, n_put, ↓reduceIte, Nat.reduceEqDiff, h0], by simp only [get_put, n_put, ↓reduceIte, Nat.reduceEqDiff, h4], by simp only [get_put, n_put, ↓reduceIte, Nat.reduceEqDiff, h5], by simp only [get_put, n_put, ↓reduceIte, Nat.reduceEqDiff, h6], by simp only [get_put, n_put, ↓reduceIte, Nat.reduceEqDiff], by simp only [get_put, n_put, ↓reduceIte, Nat.reduceEqDiff], by simp only [get_put, n_put, ↓reduceIte, Nat.reduceEqDiff], by simp only [get_put, n_put, ↓reduceIte, Nat.reduceEqDiff]; rfl⟩ ?_ ?_
    · clear hn h0 h4 h5 h6 f
      rintro Q hQ z f u ⟨j, rfl, hj, hne, rfl, hn, h0, h4, h5, h6, h8, h9, h10, h11⟩
      by_cases hjl : j < R.length
      rotate_left
      · obtain rfl : j = R.length := by omega
        have d6 : ¬ (R.length : Int) < (R.length : Int) := by omega
        simp (config := { maxSteps := 1000000, implicitDefEqProofs := false }) (disch := omega) only [allW, allR, oneOf, evalAll, partsA, optA, Nat.reduceLT, Nat.reduceLeDiff, Nat.reduceEqDiff, Nat.reduceAdd, ↓reduceIte, undef, hn, h0, h4, h5, h6, h8, h9, h10, h11, hw.sees.lenA Try.underlying65, eq_false d6]
        refine hQ _ _ _ ⟨rfl, by simp only [get_put, n_put, ↓reduceIte, Nat.reduceEqDiff, hn], .inr ⟨rfl, ?_, by simp only [get_put, n_put, ↓reduceIte, Nat.reduceEqDiff, h0], by simp only [get_put, n_put, ↓reduceIte, Nat.reduceEqDiff, h4], by simp only [get_put, n_put, ↓reduceIte, Nat.reduceEqDiff, h5], by simp only [get_put, n_put, ↓reduceIte, Nat.reduceEqDiff, h6], by simp only [get_put, n_put, ↓reduceIte, Nat.reduceEqDiff, h8], by simp only [get_put, n_put, ↓reduceIte, Nat.reduceEqDiff, h9], by simp only [get_put, n_put, ↓reduceIte, Nat.reduceEqDiff, h10]⟩⟩
        rw [look_none_iff]
        intro e he
        obtain ⟨e', he', rfl⟩ := List.mem_map.mp he
        exact hne e' (by rw [List.take_length]; exact he')
      have d6 : (j : Int) < (R.length : Int) := by omega
      have hix := hw.sees.indexAddr (P := Try.prog) (k := .i64) (x := (j : Int)) Try.underlying65 rszT (by omega) (by omega)
      rw [Int.toNat_natCast] at hix
      have hld := hw.sees.loadField (P := Try.prog) sfAgStr hjl (j := 0) (by omega)
      rw [rowsR_at hjl (by omega)] at hld
      have hld' : loadA Try.prog u 9 (plusPtr (elemPtr 2 w j) 0) = some (.string ⟨((R.getD j ([], 0, 0)).1).toArray⟩) := hld
      by_cases c6 : (R.getD j ([], 0, 0)).1 = nmk
      · simp (config := { maxSteps := 1000000, implicitDefEqProofs := false }) (disch := omega) only [allW, allR, oneOf, evalAll, partsA, optA, Nat.reduceLT, Nat.reduceLeDiff, Nat.reduceEqDiff, Nat.reduceAdd, ↓reduceIte, undef, hn, h0, h4, h5, h6, h8, h9, h10, h11, hw.sees.lenA Try.underlying65, eq_true d6, hix, rtf0 hw.sees hjl, hld', eqlStr, decide_eq_true c6]
        refine hQ _ _ _ ⟨rfl, by simp only [get_put, n_put, ↓reduceIte, Nat.reduceEqDiff, hn], .inl ⟨rfl, ?_, by simp only [get_put, n_put, ↓reduceIte, Nat.reduceEqDiff], by simp only [get_put, n_put, ↓reduceIte, Nat.reduceEqDiff]⟩⟩
        cases hl : lookT (bareR l R) nmk with
        | some y => rfl
        | none =>
          rw [look_none_iff] at hl
          have hm : R.getD j ([], 0, 0) ∈ R := by simp only [List.getD, List.getElem?_eq_getElem hjl, Option.getD_some]; exact List.getElem_mem _
          exact absurd c6 (hl _ (List.mem_map_of_mem (f := fun e : Row => (e.1, (l.drop e.2.1).take e.2.2)) hm))
      · simp (config := { maxSteps := 1000000, implicitDefEqProofs := false }) (disch := omega) only [allW, allR, oneOf, evalAll, partsA, optA, Nat.reduceLT, Nat.reduceLeDiff, Nat.reduceEqDiff, Nat.reduceAdd, ↓reduceIte, undef, hn, h0, h4, h5, h6, h8, h9, h10, h11, hw.sees.lenA Try.underlying65, eq_true d6, hix, rtf0 hw.sees hjl, hld', eqlStr, decide_eq_false c6, wrapI]
        refine wround_next (R.length - (j + 1)) (by omega) ⟨j + 1, rfl, by omega, ?_, rfl, by simp only [get_put, n_put, ↓reduceIte, Nat.reduceEqDiff, hn], by simp only [get_put, n_put, ↓reduceIte, Nat.reduceEqDiff, h0], by simp only [get_put, n_put, ↓reduceIte, Nat.reduceEqDiff, h4], by simp only [get_put, n_put, ↓reduceIte, Nat.reduceEqDiff, h5], by simp only [get_put, n_put, ↓reduceIte, Nat.reduceEqDiff, h6], by simp only [get_put, n_put, ↓reduceIte, Nat.reduceEqDiff, h8], by simp only [get_put, n_put, ↓reduceIte, Nat.reduceEqDiff, h9], by simp only [get_put, n_put, ↓reduceIte, Nat.reduceEqDiff, h10], by simp only [get_put, n_put, ↓reduceIte, Nat.reduceEqDiff]; rfl⟩
        intro e he
        rw [List.take_add_one, List.getElem?_eq_getElem hjl] at he
        rcases List.mem_append.mp he with h | h
        · exact hne e h
        · have : e = R.getD j ([], 0, 0) := by simpa [List.getD, List.getElem?_eq_getElem hjl] using h
          rw [this]; exact c6
    clear hn h0 h4 h5 h6 f
    rintro z f u ⟨rfl, hn, (⟨rfl, hl, h2, h3⟩ | ⟨rfl, hl, h0, h4, h5, h6, h8, h9, h10⟩)⟩
    · simp (config := { maxSteps := 1000000, implicitDefEqProofs := false }) (disch := omega) only [allW, allR, oneOf, evalAll, partsA, optA, Nat.reduceLT, Nat.reduceLeDiff, Nat.reduceEqDiff, Nat.reduceAdd, ↓reduceIte]
      exact hfail f hn (.inr (.inr hl)) h2 h3
    rw [hl, if_neg (by simp [c4, c5])] at htot
    have hcs := hxt.cutB (lo := pl) (hi := pl + sz) (by omega) (by omega)
    have hslp := hxt.sliceBoth (P := Try.prog) (k := .i64) (k2 := .i64) (x := (pl : Int)) (y := (pl : Int) + (sz : Int)) Try.underlying27 szU8 (by omega) (by omega) (by omega)
    rw [Int.toNat_natCast, show ((pl : Int) + (sz : Int)).toNat = pl + sz by omega] at hslp
    simp (config := { maxSteps := 1000000, implicitDefEqProofs := false }) (disch := omega) only [allW, allR, oneOf, evalAll, partsA, optA, Nat.reduceLT, Nat.reduceLeDiff, Nat.reduceEqDiff, Nat.reduceAdd, ↓reduceIte, undef, hn, h0, h4, h5, h6, h8, h9, h10, wrapI, hslp, rbT nmk _ hcs.cell1, buildAgg1 (cs := #[.string ⟨nmk.toArray⟩, cutS 1 x pl (pl + sz)]) Try.underlying65 rszT rzT rfl rfl rfl (by decide)]
    refine wstep_append_lit Try.underlying65 rszT rbyT rzT rfl hw (by simp only [get_put, n_put, ↓reduceIte, Nat.reduceEqDiff]) (by decide) (by simp only [get_put, n_put, ↓reduceIte, Nat.reduceEqDiff, hn]; decide) (by simp only [get_put, n_put, ↓reduceIte, Nat.reduceEqDiff, hn]; decide) (by rfl) (by decide) (by simp only [List.all_cons, List.all_nil, hcs.okCell]; rfl) (by omega) (by omega) hwF hst.next ?_
    intro bs w' u2 hw2 hF2 hst2 hut2 hor
    simp (config := { maxSteps := 1000000, implicitDefEqProofs := false }) (disch := omega) only [allW, allR, oneOf, evalAll, partsA, optA, Nat.reduceLT, Nat.reduceLeDiff, Nat.reduceEqDiff, Nat.reduceAdd, ↓reduceIte, hn, h0, h4, h6, wrapI]
    rw [← bareR_snoc l R (nmk, pl, sz)] at htot
    refine wround_next (many - (k + 1)) (by omega) ⟨k + 1, w', R ++ [(nmk, pl, sz)], rfl, by omega, htot, ?_, by simp [hRk], ?_, hF2, hst.trans hst2, by simp only [get_put, n_put, ↓reduceIte, Nat.reduceEqDiff, hn], by simp only [get_put, n_put, ↓reduceIte, Nat.reduceEqDiff, h0], by simp only [get_put, n_put, ↓reduceIte, Nat.reduceEqDiff, h4], by simp only [get_put, n_put, ↓reduceIte, Nat.reduceEqDiff], by simp only [get_put, n_put, ↓reduceIte, Nat.reduceEqDiff]; rfl⟩
    · intro e he
      rcases List.mem_append.mp he with h | h
      · exact hin e h
      · rw [List.mem_singleton.mp h]; show pl + sz ≤ l.length; omega
    · rw [rowsR_snoc, List.length_append, List.length_singleton]
      exact hw2
end Go.Proofs.Ytpdkppimlcbhlaa
