/-
  The statement CosOrder: entries of unlike keys make the same dictionary in whatever order; each is got by its key: the law returns true.
  Conditions: none.
-/
import Derived.Test.YtdhdhbkikhedlaaRows
import Derived.Test.YtdhdhbkikhedlaaCosU
import Derived.Test.YtdhdhbkikhedlaaObjL
import Derived.Test.YtdhdhbkikhedlaaObjV
import Derived.Test.YtdhdhbkikhedlaaCosR
import Derived.Test.YtdhdhbkikhedlaaCosM
import Derived.Test.YtdhdhbkikhedlaaCosS
set_option linter.unusedSimpArgs false
set_option linter.unusedVariables false
namespace Go.Cl
theorem small_put {k n : Int} {b : List UInt8} {l d : List (List UInt8 × O)} {L : List O} (hb : b.length ≤ 100000) (hL : L.length ≤ 100000) (hLs : ∀ x ∈ L, Small x) (hd : d.length + l.length ≤ 100000) (h1 : ∀ e ∈ d, e.1.length ≤ 100000 ∧ Small e.2) (h2 : ∀ e ∈ l, e.1.length ≤ 100000 ∧ Small e.2) : Small (.mk k n b L (putAll d l)) := by
  have h3 := putAll_len d l
  have h4 : ∀ e ∈ putAll d l, e.1.length ≤ 100000 ∧ Small e.2 := fun e he => by
    rcases putAll_mem l d he with h | h
    · exact h1 e h
    · exact h2 e h
  exact .mk hb hL (by omega) (fun e he => (h4 e he).1) hLs (fun e he => (h4 e he).2)
/-- An entry that may stand with those ahead of it. -/
def OkAt (D : List (List UInt8 × O)) (j : Nat) : Prop := ∀ h : j < D.length, (D[j].1).length ≤ 200 ∧ D[j].2.kind ≠ 0 ∧ Small D[j].2 ∧ ∀ k (h' : k < j), (D[k]'(Nat.lt_trans h' h)).1 ≠ D[j].1
theorem buildE {P : Program} {s : ASt} {t e : TypeId} {zv : Value} {z : Nat} (hu : P.underlying t = some (.slice e)) (hsz : sizeB P e = some z) (hz : zeroB P e = some zv) (hp : plainV zv = true) (hl : Nat.beq zv.cells.toList.length z = true) : buildSliceA P s t 0 [] = newSlice s [] 0 z := build0 hu hsz hz hp hl
end Go.Cl
namespace Go.Proofs.Ytdhdhbkikhedlaa.cosOrder
open Go.ChangeShapes Go.WideShapes Go.ChangeAt Go.RowKit Go.Cl Go.Lib
set_option maxRecDepth 100000 in
set_option maxHeartbeats 8000000 in
theorem law (s : ASt) (x : Value) (D : List (List UInt8 × O)) (lx : List Value) (hx : Sees s 6 x D.length lx) (hD : ORows EntIs 6 (fun _ => True) s D lx) (hp : ∀ e ∈ D, FitE e) (hk : D.length ≤ 140737488351232) (tn : Int) (hz : (Lit.int .u8 tn).wf = true) :
    Runs Try.prog libN 6 [x, .int .u8 tn] s fun v _ => v = .bool true := by
  obtain ⟨QQ, hQQ⟩ : ∃ QQ : Value → ASt → Prop, QQ = fun v _ => v = .bool true := ⟨_, rfl⟩
  rw [← hQQ]
  refine Runs.enter 144 Try.func6 rfl rfl rfl rfl ?_
  intro f hn hf
  have h0 : f.get 0 = x := hf 0
  have h1 : f.get 1 = .int .u8 tn := hf 1
  clear hf
  simp (config := { maxSteps := 1000000, implicitDefEqProofs := false }) (disch := omega) only [allW, allR, oneOf, evalAll, partsA, optA, Nat.reduceLT, Nat.reduceLeDiff, Nat.reduceEqDiff, Nat.reduceAdd, ↓reduceIte, hn, h0, h1]
  refine (awake_any rfl libC s).mono ?_
  rintro _ s1 ⟨rfl, k1⟩
  have hx1 := hx.keeps k1
  have hD0 := hD.below rowedE
  obtain ⟨F0, hF0⟩ : ∃ F0 : Nat → Prop, F0 = fun j => True ∧ j < s.next := ⟨_, rfl⟩
  rw [← hF0] at hD0
  have hD1 := hD0.keeps rowedE k1
  by_cases c1 : (30 : Int) < D.length
  · simp (config := { maxSteps := 1000000, implicitDefEqProofs := false }) (disch := omega) only [allW, allR, wfn_ret, wfn_normal, oneOf, evalAll, partsA, optA, Nat.reduceLT, Nat.reduceLeDiff, Nat.reduceEqDiff, Nat.reduceAdd, ↓reduceIte, hn, h0, h1, hx1.lenA Try.underlying24, eq_true c1, Try.results6]
    rw [hQQ]
  simp (config := { maxSteps := 1000000, implicitDefEqProofs := false }) (disch := omega) only [allW, allR, oneOf, evalAll, partsA, optA, Nat.reduceLT, Nat.reduceLeDiff, Nat.reduceEqDiff, Nat.reduceAdd, ↓reduceIte, hn, h0, h1, hx1.lenA Try.underlying24, eq_false c1]
  obtain ⟨Ok, hOk⟩ : ∃ Ok : Nat → Prop, Ok = OkAt D := ⟨_, rfl⟩
  refine Comes.loopOut (fun z f t => ∃ i : Nat, z = D.length - i ∧ i ≤ D.length ∧ (∀ j, j < i → Ok j) ∧ Stay s1.next s1 t ∧ f.n = 144 ∧ f.get 0 = x ∧ f.get 1 = .int .u8 tn ∧ f.get 5 = .int .i64 (i : Nat))
    (fun z f t => (z = .ret ∧ f.n = 144 ∧ f.get 4 = .bool true) ∨ (z = .exit 0 ∧ (∀ j, j < D.length → Ok j) ∧ Stay s1.next s1 t ∧ f.n = 144 ∧ f.get 0 = x ∧ f.get 1 = .int .u8 tn))
    ⟨0, rfl, by omega, fun j h => by omega, Stay.refl _ _, by simp only [get_put, n_put, ↓reduceIte, Nat.reduceEqDiff, hn], by simp only [get_put, n_put, ↓reduceIte, Nat.reduceEqDiff, h0], by simp only [get_put, n_put, ↓reduceIte, Nat.reduceEqDiff, h1], by simp only [get_put, n_put, ↓reduceIte, Nat.reduceEqDiff]; rfl⟩ ?_ ?_
  · clear hn h0 h1 f
    rintro Q hQ z f t ⟨i, rfl, hi, hP, hst, hn, h0, h1, h5⟩
    have hxt := hx1.keeps hst
    by_cases hlt : i < D.length
    rotate_left
    · obtain rfl : i = D.length := by omega
      have d1 : ¬ ((D.length : Nat) : Int) < ((D.length : Nat) : Int) := by omega
      simp (config := { maxSteps := 1000000, implicitDefEqProofs := false }) (disch := omega) only [allW, allR, oneOf, evalAll, partsA, optA, Nat.reduceLT, Nat.reduceLeDiff, Nat.reduceEqDiff, Nat.reduceAdd, ↓reduceIte, hn, h0, h1, h5, hxt.lenA Try.underlying24, eq_false d1]
      exact hQ _ _ _ (.inr ⟨rfl, hP, hst, by simp only [get_put, n_put, ↓reduceIte, Nat.reduceEqDiff, hn], by simp only [get_put, n_put, ↓reduceIte, Nat.reduceEqDiff, h0], by simp only [get_put, n_put, ↓reduceIte, Nat.reduceEqDiff, h1]⟩)
    have d1 : (i : Int) < (D.length : Int) := by omega
    have hix := hxt.indexAddr (P := Try.prog) (k := .i64) (x := (i : Int)) Try.underlying24 szE (by omega) (by omega)
    rw [Int.toNat_natCast] at hix
    obtain ⟨q0, q1⟩ := efE hxt hlt
    obtain ⟨r, hr1, hr2, hr3⟩ := hD1.row i hlt
    obtain ⟨hk6, hv6⟩ := chunk6 hr1
    have hlk : ∀ t', Stay t.next t t' → loadA Try.prog t' 9 (plusPtr (elemPtr 6 x i) 0) = some (.string ⟨(D[i].1).toArray⟩) := fun t' h => by
      have := (hxt.keeps h).loadField (P := Try.prog) agStr hlt (j := 0) (by omega)
      rwa [Nat.add_zero, hk6] at this
    have hlv : ∀ t', Stay t.next t t' → loadA Try.prog t' 26 (plusPtr (elemPtr 6 x i) 1) = some (.agg r.toArray) := fun t' h => by
      have := (hxt.keeps h).loadPart (P := Try.prog) agO szO hlt (j := 1) (by omega)
      rwa [hv6] at this
    have hrefl := Stay.refl t.next t
    have hfi := hp _ (List.getElem_mem hlt)
    have hfk := hfi.1
    by_cases c3 : (200 : Int) < (D[i].1).length
    · simp (config := { maxSteps := 1000000, implicitDefEqProofs := false }) (disch := omega) only [allW, allR, oneOf, evalAll, partsA, optA, Nat.reduceLT, Nat.reduceLeDiff, Nat.reduceEqDiff, Nat.reduceAdd, ↓reduceIte, hn, h0, h1, h5, hxt.lenA Try.underlying24, eq_true d1, hix, q0, q1, hlk _ hrefl, str_len Try.underlying9, eq_true c3]
      exact hQ _ _ _ (.inl ⟨rfl, by simp only [get_put, n_put, ↓reduceIte, Nat.reduceEqDiff, hn], by simp only [get_put, n_put, ↓reduceIte, Nat.reduceEqDiff]⟩)
    simp (config := { maxSteps := 1000000, implicitDefEqProofs := false }) (disch := omega) only [allW, allR, oneOf, evalAll, partsA, optA, Nat.reduceLT, Nat.reduceLeDiff, Nat.reduceEqDiff, Nat.reduceAdd, ↓reduceIte, hn, h0, h1, h5, hxt.lenA Try.underlying24, eq_true d1, hix, q0, q1, hlk _ hrefl, hlv _ hrefl, str_len Try.underlying9, eq_false c3]
    refine (rmayTop_any rfl rfl rfl rfl rfl rfl D[i].2 _ t _ (hr2.keeps hst) hfi.2).mono ?_
    rintro _ t2 ⟨⟨u, rfl, _⟩, k2⟩
    have hst2 := hst.trans (k2.weaken hst.next)
    cases u with
    | false =>
      simp (config := { maxSteps := 1000000, implicitDefEqProofs := false }) (disch := omega) only [allW, allR, oneOf, evalAll, partsA, optA, Nat.reduceLT, Nat.reduceLeDiff, Nat.reduceEqDiff, Nat.reduceAdd, ↓reduceIte, hn, h0, h1, h5, Bool.not_false]
      exact hQ _ _ _ (.inl ⟨rfl, by simp only [get_put, n_put, ↓reduceIte, Nat.reduceEqDiff, hn], by simp only [get_put, n_put, ↓reduceIte, Nat.reduceEqDiff]⟩)
    | true =>
    obtain ⟨xb, xl, xd, xlc, xdc, hrr, -⟩ : ∃ bv lv dv : Value, ∃ lc dc : List Value, r = [.int .i64 D[i].2.kind, .int .i64 D[i].2.num, bv, lv, dv] ∧ True := by
      cases hDi : D[i].2 with
      | mk k n b l d =>
        rw [hDi] at hr2
        obtain ⟨bv, lv, dv, lc, dc, h, -⟩ := hr2.parts
        exact ⟨bv, lv, dv, lc, dc, h, trivial⟩
    have hlz : loadA Try.prog t2 3 (plusPtr (elemPtr 6 x i) 1) = some (.int .i64 D[i].2.kind) := by
      have := (hxt.keeps k2).loadField (P := Try.prog) agInt hlt (j := 1) (by omega)
      have hg : lx.getD (i * 6 + 1) undef = .int .i64 D[i].2.kind := by
        have h0' : ((lx.drop (i * 6 + 1)).take 5)[0]? = some (.int .i64 D[i].2.kind) := by rw [hv6, hrr]; rfl
        rw [List.getElem?_take_of_lt (by omega), List.getElem?_drop, Nat.add_zero] at h0'
        rw [List.getD_eq_getElem?_getD, h0']; rfl
      rwa [hg] at this
    have q2 : fieldAddrA Try.prog 26 (plusPtr (elemPtr 6 x i) 1) 0 = some (plusPtr (elemPtr 6 x i) 1) := by
      obtain ⟨j, off, c, e, _⟩ := hxt.cells hlt
      rw [e]
      unfold fieldAddrA; rw [Try.underlying26]; simp [plusPtr, szInt]
    by_cases c4 : D[i].2.kind = 0
    · simp (config := { maxSteps := 1000000, implicitDefEqProofs := false }) (disch := omega) only [allW, allR, oneOf, evalAll, partsA, optA, Nat.reduceLT, Nat.reduceLeDiff, Nat.reduceEqDiff, Nat.reduceAdd, ↓reduceIte, hn, h0, h1, h5, Bool.not_true, hix, q0, q1, q2, hlz, eq_true c4]
      exact hQ _ _ _ (.inl ⟨rfl, by simp only [get_put, n_put, ↓reduceIte, Nat.reduceEqDiff, hn], by simp only [get_put, n_put, ↓reduceIte, Nat.reduceEqDiff]⟩)
    simp (config := { maxSteps := 1000000, implicitDefEqProofs := false }) (disch := omega) only [allW, allR, oneOf, evalAll, partsA, optA, Nat.reduceLT, Nat.reduceLeDiff, Nat.reduceEqDiff, Nat.reduceAdd, ↓reduceIte, hn, h0, h1, h5, Bool.not_true, hix, q0, q1, q2, hlz, eq_false c4, hlv _ k2]
    refine (room_any rfl 40 (by decide) _ D[i].2 (Nat.le_refl _) _ t2 _ 6 (hr2.keeps hst2) hfi.2 (by decide) (by decide)).mono ?_
    rintro _ t3 ⟨⟨u, rfl, hu⟩, k3⟩
    have hst3 := hst2.trans (k3.weaken hst2.next)
    cases u with
    | false =>
      simp (config := { maxSteps := 1000000, implicitDefEqProofs := false }) (disch := omega) only [allW, allR, oneOf, evalAll, partsA, optA, Nat.reduceLT, Nat.reduceLeDiff, Nat.reduceEqDiff, Nat.reduceAdd, ↓reduceIte, hn, h0, h1, h5, Bool.not_false]
      exact hQ _ _ _ (.inl ⟨rfl, by simp only [get_put, n_put, ↓reduceIte, Nat.reduceEqDiff, hn], by simp only [get_put, n_put, ↓reduceIte, Nat.reduceEqDiff]⟩)
    | true =>
    have hu := (hu rfl).1
    simp (config := { maxSteps := 1000000, implicitDefEqProofs := false }) (disch := omega) only [allW, allR, oneOf, evalAll, partsA, optA, Nat.reduceLT, Nat.reduceLeDiff, Nat.reduceEqDiff, Nat.reduceAdd, ↓reduceIte, hn, h0, h1, h5, Bool.not_true]
    have k23 : Stay t.next t t3 := k2.trans (k3.weaken k2.next)
    have hx3 := hxt.keeps k23
    refine Comes.loopOut (fun z f u => ∃ k : Nat, z = i - k ∧ k ≤ i ∧ (∀ j (h : j < i), j < k → (D[j]'(Nat.lt_trans h hlt)).1 ≠ D[i].1) ∧ u = t3 ∧ f.n = 144 ∧ f.get 0 = x ∧ f.get 1 = .int .u8 tn ∧ f.get 5 = .int .i64 (i : Nat) ∧ f.get 6 = .int .i64 (k : Nat))
      (fun z f u => (z = .ret ∧ f.n = 144 ∧ f.get 4 = .bool true) ∨ (z = .exit 2 ∧ (∀ j (h : j < i), (D[j]'(Nat.lt_trans h hlt)).1 ≠ D[i].1) ∧ u = t3 ∧ f.n = 144 ∧ f.get 0 = x ∧ f.get 1 = .int .u8 tn ∧ f.get 5 = .int .i64 (i : Nat)))
      ⟨0, rfl, by omega, fun j h h' => by omega, rfl, by simp only [get_put, n_put, ↓reduceIte, Nat.reduceEqDiff, hn], by simp only [get_put, n_put, ↓reduceIte, Nat.reduceEqDiff, h0], by simp only [get_put, n_put, ↓reduceIte, Nat.reduceEqDiff, h1], by simp only [get_put, n_put, ↓reduceIte, Nat.reduceEqDiff, h5], by simp only [get_put, n_put, ↓reduceIte, Nat.reduceEqDiff]; rfl⟩ ?_ ?_
    · clear hn h0 h1 h5 f
      rintro Q2 hQ2 z f u ⟨k, rfl, hk', hP2, rfl, hn, h0, h1, h5, h6⟩
      by_cases hlt2 : k < i
      rotate_left
      · obtain rfl : k = i := by omega
        have d2 : ¬ ((k : Nat) : Int) < ((k : Nat) : Int) := by omega
        simp (config := { maxSteps := 1000000, implicitDefEqProofs := false }) (disch := omega) only [allW, allR, oneOf, evalAll, partsA, optA, Nat.reduceLT, Nat.reduceLeDiff, Nat.reduceEqDiff, Nat.reduceAdd, ↓reduceIte, hn, h0, h1, h5, h6, eq_false d2]
        exact hQ2 _ _ _ (.inr ⟨rfl, fun j h => hP2 j h h, rfl, by simp only [get_put, n_put, ↓reduceIte, Nat.reduceEqDiff, hn], by simp only [get_put, n_put, ↓reduceIte, Nat.reduceEqDiff, h0], by simp only [get_put, n_put, ↓reduceIte, Nat.reduceEqDiff, h1], by simp only [get_put, n_put, ↓reduceIte, Nat.reduceEqDiff, h5]⟩)
      have d2 : (k : Int) < (i : Int) := by omega
      have hlk2 : k < D.length := by omega
      have hiy := hx3.indexAddr (P := Try.prog) (k := .i64) (x := (k : Int)) Try.underlying24 szE (by omega) (by omega)
      rw [Int.toNat_natCast] at hiy
      obtain ⟨w0, _⟩ := efE hx3 hlk2
      obtain ⟨r', hr1', -, -⟩ := hD1.row k hlk2
      obtain ⟨hk6', -⟩ := chunk6 hr1'
      have hlk' := hx3.loadField (P := Try.prog) agStr hlk2 (j := 0) (by omega)
      rw [Nat.add_zero, hk6'] at hlk'
      by_cases hke : D[k].1 = D[i].1
      · simp (config := { maxSteps := 1000000, implicitDefEqProofs := false }) (disch := omega) only [allW, allR, oneOf, evalAll, partsA, optA, Nat.reduceLT, Nat.reduceLeDiff, Nat.reduceEqDiff, Nat.reduceAdd, ↓reduceIte, hn, h0, h1, h5, h6, eq_true d2, hx3.self, hix, hiy, q0, w0, hlk', hlk _ k23, str_eql, decide_eq_true hke, valEq_string, valEq_elemPtr, valEq_plus]
        exact hQ2 _ _ _ (.inl ⟨rfl, by simp only [get_put, n_put, ↓reduceIte, Nat.reduceEqDiff, hn], by simp only [get_put, n_put, ↓reduceIte, Nat.reduceEqDiff]⟩)
      · simp (config := { maxSteps := 1000000, implicitDefEqProofs := false }) (disch := omega) only [allW, allR, oneOf, evalAll, partsA, optA, Nat.reduceLT, Nat.reduceLeDiff, Nat.reduceEqDiff, Nat.reduceAdd, ↓reduceIte, hn, h0, h1, h5, h6, eq_true d2, hx3.self, hix, hiy, q0, w0, hlk', hlk _ k23, str_eql, decide_eq_false hke, valEq_string, valEq_elemPtr, valEq_plus, wrapI]
        refine wround_next (i - (k + 1)) (by omega) ⟨k + 1, rfl, by omega, fun j h hj => ?_, rfl, by simp only [get_put, n_put, ↓reduceIte, Nat.reduceEqDiff, hn], by simp only [get_put, n_put, ↓reduceIte, Nat.reduceEqDiff, h0], by simp only [get_put, n_put, ↓reduceIte, Nat.reduceEqDiff, h1], by simp only [get_put, n_put, ↓reduceIte, Nat.reduceEqDiff, h5], by simp only [get_put, n_put, ↓reduceIte, Nat.reduceEqDiff]; rfl⟩
        by_cases hjk : j = k
        · subst hjk; exact hke
        · exact hP2 j h (by omega)
    clear hn h0 h1 h5 f
    rintro z f u (⟨rfl, hn, h4⟩ | ⟨rfl, hall, rfl, hn, h0, h1, h5⟩)
    · simp (config := { maxSteps := 1000000, implicitDefEqProofs := false }) (disch := omega) only [allW, allR, oneOf, evalAll, partsA, optA, Nat.reduceLT, Nat.reduceLeDiff, Nat.reduceEqDiff, Nat.reduceAdd, ↓reduceIte]
      exact hQ _ _ _ (.inl ⟨rfl, hn, h4⟩)
    simp (config := { maxSteps := 1000000, implicitDefEqProofs := false }) (disch := omega) only [allW, allR, oneOf, evalAll, partsA, optA, Nat.reduceLT, Nat.reduceLeDiff, Nat.reduceEqDiff, Nat.reduceAdd, ↓reduceIte, hn, h0, h1, h5, wrapI]
    refine wround_next (D.length - (i + 1)) (by omega) ⟨i + 1, rfl, by omega, fun j hj => ?_, hst3, by simp only [get_put, n_put, ↓reduceIte, Nat.reduceEqDiff, hn], by simp only [get_put, n_put, ↓reduceIte, Nat.reduceEqDiff, h0], by simp only [get_put, n_put, ↓reduceIte, Nat.reduceEqDiff, h1], by simp only [get_put, n_put, ↓reduceIte, Nat.reduceEqDiff]; rfl⟩
    by_cases hji : j = i
    · subst hji; rw [hOk]; exact fun _ => ⟨by omega, c4, hu, hall⟩
    · exact hP j (by omega)
  clear hn h0 h1 f
  rintro z f t (⟨rfl, hn, h4⟩ | ⟨rfl, hall, hst, hn, h0, h1⟩)
  · simp (config := { maxSteps := 1000000, implicitDefEqProofs := false }) (disch := omega) only [allW, allR, wfn_ret, wfn_normal, oneOf, evalAll, partsA, optA, Nat.reduceLT, Nat.reduceLeDiff, Nat.reduceEqDiff, Nat.reduceAdd, ↓reduceIte, hn, h4, Try.results6]
    rw [hQQ]
  rw [hOk] at hall
  have hal : ∀ e ∈ D, e.1.length ≤ 100000 ∧ Small e.2 := fun e he => by
    obtain ⟨j, hj, rfl⟩ := List.mem_iff_getElem.1 he
    have := hall j hj hj
    exact ⟨by omega, this.2.2.1⟩
  have hal2 : ∀ e ∈ D, Small e.2 := fun e he => (hal e he).2
  have halk : ∀ e ∈ D, e.2.kind ≠ 0 := fun e he => by
    obtain ⟨j, hj, rfl⟩ := List.mem_iff_getElem.1 he
    exact (hall j hj hj).2.1
  have hpw : D.Pairwise (fun x y => x.1 ≠ y.1) := List.pairwise_iff_getElem.2 (fun i j hi hj hij => (hall j hj hj).2.2.2 i hij)
  have hst0 : Stay s.next s t := k1.trans (hst.weaken k1.next)
  have hn0 := hst0.next
  have hxt := hx.keeps hst0
  have htn : 0 ≤ tn ∧ tn < 256 := by
    simp [Lit.wf, IntKind.min, IntKind.max, IntKind.bits, IntKind.signed] at hz
    omega
  clear hall hOk hz Ok
  simp (config := { maxSteps := 1000000, implicitDefEqProofs := false }) (disch := omega) only [allW, allR, oneOf, evalAll, partsA, optA, Nat.reduceLT, Nat.reduceLeDiff, Nat.reduceEqDiff, Nat.reduceAdd, ↓reduceIte, hn, h0, h1, hxt.lenA Try.underlying24]
  refine wif_cutJ (fun f' s' => s' = t ∧ ∃ m : Nat, m ≤ D.length ∧ f'.n = 144 ∧ f'.get 0 = x ∧ f'.get 7 = .int .i64 (m : Nat)) ?_ ?_
  · intro Q' hQ
    refine wif_cases (fun hb => ?_) (fun hb => ?_)
    · have hpos : 0 < D.length := by have := of_decide_eq_true hb; omega
      have hne : ((D.length : Nat) : Int) ≠ 0 := by omega
      have hrem : tn.tmod (D.length : Int) = ((tn.toNat % D.length : Nat) : Int) := by
        obtain ⟨m, rfl⟩ := Int.eq_ofNat_of_zero_le htn.1
        rw [Int.tmod_eq_emod_of_nonneg (by omega)]
        simp
      have hlt := Nat.mod_lt tn.toNat hpos
      simp (config := { maxSteps := 1000000, implicitDefEqProofs := false }) (disch := omega) only [allW, allR, oneOf, evalAll, partsA, optA, Nat.reduceLT, Nat.reduceLeDiff, Nat.reduceEqDiff, Nat.reduceAdd, ↓reduceIte, hn, h0, h1, hxt.lenA Try.underlying24, conv_int Try.underlying5 Try.underlying3, wrapI, bin_rem (h := hne), hrem]
      exact hQ _ _ ⟨rfl, tn.toNat % D.length, by omega, by simp only [get_put, n_put, ↓reduceIte, Nat.reduceEqDiff, hn], by simp only [get_put, n_put, ↓reduceIte, Nat.reduceEqDiff, h0], by simp only [get_put, n_put, ↓reduceIte, Nat.reduceEqDiff]⟩
    · simp (config := { maxSteps := 1000000, implicitDefEqProofs := false }) (disch := omega) only [allW, allR, oneOf, evalAll, partsA, optA, Nat.reduceLT, Nat.reduceLeDiff, Nat.reduceEqDiff, Nat.reduceAdd, ↓reduceIte, hn, h0, h1]
      exact hQ _ _ ⟨rfl, 0, by omega, by simp only [get_put, n_put, ↓reduceIte, Nat.reduceEqDiff, hn], by simp only [get_put, n_put, ↓reduceIte, Nat.reduceEqDiff, h0], by simp only [get_put, n_put, ↓reduceIte, Nat.reduceEqDiff]; rfl⟩
  clear hn h0 h1 f
  rintro f u ⟨rfl, m, hm, hn, h0, h7⟩
  have hDt := hD0.keeps rowedE hst0
  simp (config := { maxSteps := 1000000, implicitDefEqProofs := false }) (disch := omega) only [allW, allR, oneOf, evalAll, partsA, optA, Nat.reduceLT, Nat.reduceLeDiff, Nat.reduceEqDiff, Nat.reduceAdd, ↓reduceIte, hn, h0, h7]
  obtain ⟨A, hA⟩ : ∃ A : Nat → Bool, A = fun j => decide (j < u.next) := ⟨_, rfl⟩
  have hAl : ∀ j, A j = true → j < u.next := by
    intro j h
    rw [hA] at h
    exact of_decide_eq_true h
  have hAo : ∀ j, j < u.next → A j = true := fun j h => by rw [hA]; exact decide_eq_true h
  refine LB.Drawn.looseK A hAl 2 3 (by kernel_rfl) (by kernel_rfl) ?_
  have hsp := Stay.spare u 3
  have hnT : (spare u 3).next = u.next + 3 := spare_next _ _
  simp (config := { maxSteps := 1000000, implicitDefEqProofs := false }) (disch := omega) only [allW, allR, allL, allB, Nat.sub_self, Nat.add_one_sub_one, Nat.reduceSub, oneOf, evalAll, partsA, optA, Nat.reduceLT, Nat.reduceLeDiff, Nat.reduceEqDiff, Nat.reduceAdd, ↓reduceIte, hn, h0, h7, hxt.self]
  refine (dict_any libC F0 (spare u 3) x D lx (hxt.keeps hsp) (hDt.keeps rowedE hsp) (by omega) hal2).mono ?_
  rintro _ t4 ⟨ca, rfl, oa, k4⟩
  have k34 := hsp.trans (k4.weaken (by omega))
  have m4 := k4.next
  refine ⟨fun _ => LA.Stay.toA hAl (k4.weaken (by omega)), ?_⟩
  refine LB.smake_newSlice (base := u.next) (by rw [Nat.zero_mul]; rfl) (by omega) (Nat.le_refl _) ?_
  intro v0 t5 hv0 hid0 k5 nx5 ot5
  have k35 : Stay u.next u t5 := k34.trans k5
  have hx5 := hxt.keeps k35
  have hD5 := hDt.keeps rowedE k35
  have hsl := hx5.sliceLow (P := Try.prog) Try.underlying24 szE (k := .i64) (x := (m : Int)) (by omega) (by omega)
  rw [Int.toNat_natCast] at hsl
  have hcl := hx5.cut (lo := m) (hi := D.length) hm (Nat.le_refl _)
  have hlx := hD5.len
  rw [List.take_of_length_le (by rw [List.length_drop, hlx, Nat.sub_mul]; omega)] at hcl
  have hr1 := hD5.drop m hm
  have hdl : (D.drop m).length = D.length - m := List.length_drop ..
  have htl : (D.take m).length = m := by rw [List.length_take]; omega
  have hok1 : (lx.drop (m * 6)).all okCell = true := rows_ok (by decide) (D.length - m) _ (by rw [List.length_drop, hlx, Nat.sub_mul]) (fun i hi => entOk (hr1.row i (by omega)))
  have hFv : Fresh u.next v0 := fun j hj => by rw [hid0] at hj; injection hj with hj; omega
  have a1 : ∀ v : Value, Fresh u.next v → ∀ j, idOf v = some j → A j = false := fun v h j hj => by
    have := h j hj
    rw [hA]; exact decide_eq_false (by omega)
  have a2 : ∀ T : ASt, u.next ≤ T.next → ∀ j, A j = true → j < T.next := fun T h j hj => by have := hAl j hj; omega
  simp (config := { maxSteps := 1000000, implicitDefEqProofs := false }) (disch := omega) only [allW, allR, allL, allB, Nat.sub_self, Nat.add_one_sub_one, Nat.reduceSub, oneOf, evalAll, partsA, optA, Nat.reduceLT, Nat.reduceLeDiff, Nat.reduceEqDiff, Nat.reduceAdd, ↓reduceIte, hn, h0, h7, hx5.self, hv0.self, oa.self, hsl, hcl.self, LA.lowV_old hxt hAo]
  refine LB.sstep_append Try.underlying24 Try.underlying24 (.inl ⟨_, rfl⟩) szE byE zE rfl hv0 hcl.src (by rw [List.length_drop, hlx, Nat.sub_mul]) (by decide) hok1 (by omega) (by omega) (base := u.next) hFv (by omega) (fun _ => a1 v0 hFv) (a2 t5 (by omega)) ?_
  intro v1 t6 hv1 hF1 hu1 hor1
  have k36 : Stay u.next u t6 := k35.trans (hu1.keeps hFv (by omega))
  have hx6 := hxt.keeps k36
  have hD6 := hDt.keeps rowedE k36
  have hsh := hx6.sliceHigh (P := Try.prog) Try.underlying24 szE (k := .i64) (y := (m : Int)) (by omega) (by omega)
  rw [Int.toNat_natCast] at hsh
  have hch := hx6.cut (lo := 0) (hi := m) (by omega) hm
  rw [Nat.zero_mul, List.drop_zero, Nat.sub_zero] at hch
  have hr2 := hD6.take m hm
  have hmz : m * 6 ≤ D.length * 6 := Nat.mul_le_mul_right 6 hm
  have hok2 : (lx.take (m * 6)).all okCell = true := rows_ok (by decide) m _ (by rw [List.length_take]; omega) (fun i hi => entOk (hr2.row i (by omega)))
  have m5 := k5.next
  have m6 := hu1.next
  simp (config := { maxSteps := 1000000, implicitDefEqProofs := false }) (disch := omega) only [allW, allR, allL, allB, Nat.sub_self, Nat.add_one_sub_one, Nat.reduceSub, oneOf, evalAll, partsA, optA, Nat.reduceLT, Nat.reduceLeDiff, Nat.reduceEqDiff, Nat.reduceAdd, ↓reduceIte, hn, h0, h7, hx6.self, hv1.self, oa.self, hsh, hch.self, LA.lowV_old hxt hAo]
  refine LB.sstep_append Try.underlying24 Try.underlying24 (.inl ⟨_, rfl⟩) szE byE zE rfl hv1 hch.src (by rw [List.length_take]; omega) (by decide) hok2 (by omega) (by omega) (base := u.next) hF1 (by omega) (fun _ => a1 v1 hF1) (a2 t6 (by omega)) ?_
  intro v2 t7 hv2 hF2 hu2 hor2
  have k37 : Stay u.next u t7 := k36.trans (hu2.keeps hF1 (by omega))
  have m7 := hu2.next
  obtain ⟨E, hE⟩ : ∃ E, E = D.drop m ++ D.take m := ⟨_, rfl⟩
  have hEl : E.length = D.length - m + m := by rw [hE, List.length_append, hdl, htl]
  have hv2' : Own t7 6 v2 E.length (lx.drop (m * 6) ++ lx.take (m * 6)) := by rw [hEl]; simpa [repeatL] using hv2
  have hD7 := hDt.keeps rowedE k37
  have hrE : ORows EntIs 6 F0 t7 E (lx.drop (m * 6) ++ lx.take (m * 6)) := by rw [hE]; exact (hD7.drop m hm).append (hD7.take m hm)
  have hmem : ∀ e ∈ E, e ∈ D := fun e he => by
    rw [hE] at he
    rcases List.mem_append.1 he with h | h
    · exact List.mem_of_mem_drop h
    · exact List.mem_of_mem_take h
  have oa7 : OIs (fun j => u.next + 3 ≤ j ∧ j < t4.next) t7 ca (.mk 7 0 [] [] (putAll [] D)) := by
    have h4 : OIs (fun j => u.next + 3 ≤ j ∧ j < t4.next) t4 ca _ := oa.lows.mono (fun j hj => ⟨by have : _ ≤ j := hj.1; omega, hj.2⟩)
    refine ((h4.ofPut nx5 ot5 (by omega)).turns hu1 (fun j hj e => ?_)).turns hu2 (fun j hj e => ?_)
    · rw [hid0] at e; injection e with e; omega
    · rcases hor1 with h | ⟨i, h, hi⟩
      · rw [h, hid0] at e; injection e with e; omega
      · rw [h] at e; injection e with e; have := hj.2; omega
  simp (config := { maxSteps := 1000000, implicitDefEqProofs := false }) (disch := omega) only [allW, allR, allL, allB, Nat.sub_self, Nat.add_one_sub_one, Nat.reduceSub, oneOf, evalAll, partsA, optA, Nat.reduceLT, Nat.reduceLeDiff, Nat.reduceEqDiff, Nat.reduceAdd, ↓reduceIte, hn, h0, h7, hv2.self, oa.self]
  refine (dict_any libC F0 t7 v2 E _ hv2'.sees hrE (by omega) (fun e he => hal2 e (hmem e he))).mono ?_
  rintro _ t8 ⟨cb, rfl, ob, k8⟩
  have m8 := k8.next
  refine ⟨fun h => h.elim, ?_⟩
  have la := oa.len
  have lb := ob.len
  have oaS := oa.self
  have obS := ob.self
  simp (config := { maxSteps := 1000000, implicitDefEqProofs := false }) (disch := omega) only [allW, allR, allL, allB, Nat.sub_self, Nat.add_one_sub_one, Nat.reduceSub, oneOf, evalAll, partsA, optA, Nat.reduceLT, Nat.reduceLeDiff, Nat.reduceEqDiff, Nat.reduceAdd, ↓reduceIte, hn, h0, h7, zO, plO]
  refine LB.smake_newPtr (by omega) ?_
  intro a1' ha1 na1 ea1
  have hd6 : noneC.length + 1 = 6 := rfl
  simp (config := { maxSteps := 1000000, implicitDefEqProofs := false }) (disch := omega) only [allW, allR, allL, allB, Nat.sub_self, Nat.add_one_sub_one, Nat.reduceSub, oneOf, evalAll, partsA, optA, Nat.reduceLT, Nat.reduceLeDiff, Nat.reduceEqDiff, Nat.reduceAdd, ↓reduceIte, hn, h0, h7, zO, plO]
  refine LB.smake_newPtr (by omega) ?_
  intro a2' ha2 na2 ea2
  simp (config := { maxSteps := 1000000, implicitDefEqProofs := false }) (disch := omega) only [allW, allR, allL, allB, Nat.sub_self, Nat.add_one_sub_one, Nat.reduceSub, oneOf, evalAll, partsA, optA, Nat.reduceLT, Nat.reduceLeDiff, Nat.reduceEqDiff, Nat.reduceAdd, ↓reduceIte, hn, h0, h7, hd6]
  refine LB.sstep_storeAll szO (by decide) (ha1.ofPut na2 ea2 (by omega)) rfl rfl la oa.ok (fun h => absurd rfl h) ?_
  intro a3 ha3 na3 ea3
  have ha3 : Thing a3 (u.next + 1) ca := ha3
  simp (config := { maxSteps := 1000000, implicitDefEqProofs := false }) (disch := omega) only [allW, allR, allL, allB, Nat.sub_self, Nat.add_one_sub_one, Nat.reduceSub, oneOf, evalAll, partsA, optA, Nat.reduceLT, Nat.reduceLeDiff, Nat.reduceEqDiff, Nat.reduceAdd, ↓reduceIte, hn, h0, h7, hd6]
  refine LB.sstep_storeAll szO (by decide) (ha2.ofPut na3 ea3 (by omega)) rfl rfl lb ob.ok (fun h => absurd rfl h) ?_
  intro a4 ha4 na4 ea4
  have ha4 : Thing a4 (u.next + 1 + 1) cb := ha4
  have baA : Thing a4 (u.next + 1) ca := ha3.ofPut na4 ea4 (by omega)
  have k38 : Stay u.next u t8 := k37.trans (k8.weaken (by omega))
  have kA : Stay u.next u a4 := k38.trans ⟨by omega, fun j hj => by rw [ea4 j (by omega), ea3 j (by omega), ea2 j (by omega), ea1 j (by omega)]⟩
  have oa9 : OIs (fun j => u.next + 3 ≤ j ∧ j < t4.next) a4 ca (.mk 7 0 [] [] (putAll [] D)) := ((((oa7.keeps k8).ofPut na1 ea1 (by omega)).ofPut na2 ea2 (by omega)).ofPut na3 ea3 (by omega)).ofPut na4 ea4 (by omega)
  have ob9 : OIs (fun j => t7.next ≤ j) a4 cb (.mk 7 0 [] [] (putAll [] E)) := (((ob.ofPut na1 ea1 (by omega)).ofPut na2 ea2 (by omega)).ofPut na3 ea3 (by omega)).ofPut na4 ea4 (by omega)
  have hsame : putAll [] E = putAll [] D := by rw [hE]; exact (putAll_turn halk hpw m).symm
  rw [hsame] at ob9
  refine LB.scall_reframe (fun f => f.n = 144 ∧ f.get 0 = x ∧ f.get 8 = .pointer (some ⟨u.next + 1, 0, some 6⟩) ∧ f.get 9 = .pointer (some ⟨u.next + 1 + 1, 0, some 6⟩)) ⟨by simp only [get_put, n_put, ↓reduceIte, Nat.reduceEqDiff, hn], by first | simp only [get_put, n_put, ↓reduceIte, Nat.reduceEqDiff, h0] | simp only [get_put, n_put, ↓reduceIte, Nat.reduceEqDiff], by first | simp only [get_put, n_put, ↓reduceIte, Nat.reduceEqDiff, h8] | simp only [get_put, n_put, ↓reduceIte, Nat.reduceEqDiff], by first | simp only [get_put, n_put, ↓reduceIte, Nat.reduceEqDiff, h9] | simp only [get_put, n_put, ↓reduceIte, Nat.reduceEqDiff]⟩ ?_
  rintro f ⟨hn, h0, h8, h9⟩
  have hxA := hxt.keeps kA
  have hDA := hDt.keeps rowedE kA
  have hSl : (putAll [] D).length = D.length := putAll_length halk hpw
  have sS : Small (.mk 7 0 [] [] (putAll [] D)) := small_put (by simp) (by simp) (fun e h => by cases h) (by simp; omega) (fun e h => by cases h) hal
  obtain ⟨bv, lv, dv, lc, dc, hca, hb9, hl9, hd9, -, -, -, rl9, rd9⟩ := oa9.parts
  have nA := kA.next
  have r0 := Stay.refl a4.next a4
  have z8 : ∀ t, Stay a4.next a4 t → loadA Try.prog t 26 (.pointer (some ⟨u.next + 1, 0, some 6⟩)) = some (.agg ca.toArray) := fun t h => Thing.loadO (baA.keeps h) la
  have z9 : ∀ t, Stay a4.next a4 t → loadA Try.prog t 26 (.pointer (some ⟨u.next + 1 + 1, 0, some 6⟩)) = some (.agg cb.toArray) := fun t h => Thing.loadO (ha4.keeps h) lb
  have zD : ∀ t, Stay a4.next a4 t → loadA Try.prog t 24 (.pointer (some ⟨u.next + 1, 4, some 6⟩)) = some dv := fun t h => by
    have := (baA.keeps h).load (P := Try.prog) agDs (off := 4) (c := 6) (by rw [hca]; rfl) (by rw [hca]; simp)
    rw [this, hca]; rfl
  simp (config := { maxSteps := 1000000, implicitDefEqProofs := false }) (disch := omega) only [allW, allR, allL, allB, Nat.sub_self, Nat.add_one_sub_one, Nat.reduceSub, oneOf, evalAll, partsA, optA, Nat.reduceLT, Nat.reduceLeDiff, Nat.reduceEqDiff, Nat.reduceAdd, ↓reduceIte, hn, h0, h8, h9, z8 _ r0, z9 _ r0]
  refine (csame_any rfl rfl rfl rfl rfl _ _ _ (Nat.le_refl _) _ _ _ _ _ oa9 ob9 sS sS).mono ?_
  rintro _ b1 ⟨⟨v1', rfl, e1⟩, j1⟩
  obtain rfl : v1' = true := e1.2 (SameO.self _)
  have hdS : ∀ t, Stay a4.next a4 t → Sees t 6 dv D.length dc := fun t h => by rw [← hSl]; exact hd9.keeps h
  have dn : decide (((D.length : Nat) : Int) ≠ ((D.length : Nat) : Int)) = false := decide_eq_false (fun h => h rfl)
  simp (config := { maxSteps := 1000000, implicitDefEqProofs := false }) (disch := omega) only [allW, allR, oneOf, evalAll, partsA, optA, Nat.reduceLT, Nat.reduceLeDiff, Nat.reduceEqDiff, Nat.reduceAdd, ↓reduceIte, hn, h0, h8, h9, of4, zD _ j1, (hdS _ j1).lenA Try.underlying24, (hxA.keeps j1).lenA Try.underlying24, Bool.not_true]
  refine Comes.loopOut (fun z f t => ∃ i : Nat, z = D.length - i ∧ i ≤ D.length ∧ Stay a4.next a4 t ∧ f.n = 144 ∧ f.get 0 = x ∧ f.get 8 = .pointer (some ⟨u.next + 1, 0, some 6⟩) ∧ f.get 10 = .int .i64 (i : Nat))
    (fun z f t => z = .exit 4 ∧ f.n = 144)
    ⟨0, rfl, by omega, j1, by simp only [get_put, n_put, ↓reduceIte, Nat.reduceEqDiff, hn], by simp only [get_put, n_put, ↓reduceIte, Nat.reduceEqDiff, h0], by simp only [get_put, n_put, ↓reduceIte, Nat.reduceEqDiff, h8], by simp only [get_put, n_put, ↓reduceIte, Nat.reduceEqDiff]; rfl⟩ ?_ ?_
  · clear hn h0 h8 h9 f
    rintro Q hQ z f t ⟨i, rfl, hi, hst', hn, h0, h8, h10⟩
    have hxt' := hxA.keeps hst'
    by_cases hlt : i < D.length
    rotate_left
    · obtain rfl : i = D.length := by omega
      have d1 : ¬ ((D.length : Nat) : Int) < ((D.length : Nat) : Int) := by omega
      simp (config := { maxSteps := 1000000, implicitDefEqProofs := false }) (disch := omega) only [allW, allR, oneOf, evalAll, partsA, optA, Nat.reduceLT, Nat.reduceLeDiff, Nat.reduceEqDiff, Nat.reduceAdd, ↓reduceIte, hn, h0, h8, h10, hxt'.lenA Try.underlying24, eq_false d1]
      exact hQ _ _ _ ⟨rfl, by simp only [get_put, n_put, ↓reduceIte, Nat.reduceEqDiff, hn]⟩
    have d1 : (i : Int) < (D.length : Int) := by omega
    simp (config := { maxSteps := 1000000, implicitDefEqProofs := false }) (disch := omega) only [allW, allR, oneOf, evalAll, partsA, optA, Nat.reduceLT, Nat.reduceLeDiff, Nat.reduceEqDiff, Nat.reduceAdd, ↓reduceIte, hn, h0, h8, h10, hxt'.lenA Try.underlying24, eq_true d1]
    obtain ⟨B, hB⟩ : ∃ B : Nat → Bool, B = fun j => decide (j < t.next) := ⟨_, rfl⟩
    have hBl : ∀ j, B j = true → j < t.next := by
      intro j h
      rw [hB] at h
      exact of_decide_eq_true h
    have hBo : ∀ j, j < t.next → B j = true := fun j h => by rw [hB]; exact decide_eq_true h
    refine LB.Drawn.looseK B hBl 2 0 (by kernel_rfl) (by kernel_rfl) ?_
    have hsq := Stay.spare t 0
    have hnQ : (spare t 0).next = t.next + 0 := spare_next _ _
    have nt := hst'.next
    have hlt8 := baA.lt
    have l8 : ∀ k, LA.lowV B (some (.pointer (some ⟨u.next + 1, k, some 6⟩))) = true := fun k => LA.lowV_ptr (A := B) (i := u.next + 1) (hBo _ (by omega))
    have hBk : ∀ t', Stay t.next t t' → Stay a4.next a4 t' := fun t' h => hst'.trans (h.weaken nt)
    have hix := hxt'.indexAddr (P := Try.prog) (k := .i64) (x := (i : Int)) Try.underlying24 szE (by omega) (by omega)
    rw [Int.toNat_natCast] at hix
    obtain ⟨q0, q1⟩ := efE hxt' hlt
    obtain ⟨r, hr1', hr2', hr3'⟩ := hDA.row i hlt
    obtain ⟨hk6, hv6⟩ := chunk6 hr1'
    have hlk : ∀ t', Stay t.next t t' → loadA Try.prog t' 9 (plusPtr (elemPtr 6 x i) 0) = some (.string ⟨(D[i].1).toArray⟩) := fun t' h => by
      have := (hxt'.keeps h).loadField (P := Try.prog) agStr hlt (j := 0) (by omega)
      rwa [Nat.add_zero, hk6] at this
    have hlv : ∀ t', Stay t.next t t' → loadA Try.prog t' 26 (plusPtr (elemPtr 6 x i) 1) = some (.agg r.toArray) := fun t' h => by
      have := (hxt'.keeps h).loadPart (P := Try.prog) agO szO hlt (j := 1) (by omega)
      rwa [hv6] at this
    have lP := fun j => LA.lowV_plus hxt' hBo hlt j
    have caS : valEq (.agg ca.toArray) (.agg ca.toArray) = true := oa9.self
    simp (config := { maxSteps := 1000000, implicitDefEqProofs := false }) (disch := omega) only [allW, allR, allL, allB, Nat.sub_self, Nat.add_one_sub_one, Nat.reduceSub, oneOf, evalAll, partsA, optA, Nat.reduceLT, Nat.reduceLeDiff, Nat.reduceEqDiff, Nat.reduceAdd, ↓reduceIte, hn, h0, h8, h10, l8, lP, z8 _ (hBk _ hsq), hxt'.self, hix, q0, q1, hlk _ hsq, caS, valEq_string, valEq_plus, valEq_elemPtr]
    refine (get_any rfl rfl rfl rfl rfl _ (spare t 0) ca _ (oa9.keeps (hBk _ hsq)) sS D[i].1).mono ?_
    rintro _ u1 ⟨cg, rfl, og, g1⟩
    have g01 := hsq.trans (g1.weaken hsq.next)
    have hget : getO (.mk 7 0 [] [] (putAll [] D)) D[i].1 = D[i].2 := putAll_find halk hpw (List.getElem_mem hlt)
    rw [hget] at og
    refine ⟨fun _ => LA.Stay.toA hBl (g1.weaken (by omega)), ?_⟩
    have hri := hr2'.keeps (hBk _ g01)
    simp (config := { maxSteps := 1000000, implicitDefEqProofs := false }) (disch := omega) only [allW, allR, allL, allB, Nat.sub_self, Nat.add_one_sub_one, Nat.reduceSub, oneOf, evalAll, partsA, optA, Nat.reduceLT, Nat.reduceLeDiff, Nat.reduceEqDiff, Nat.reduceAdd, ↓reduceIte, hn, h0, h8, h10, l8, lP, hxt'.self, hix, q0, q1, hlv _ g01, og.self, hri.self, valEq_string, valEq_plus, valEq_elemPtr]
    refine (rsame_any rfl rfl _ _ _ (Nat.le_refl _) _ _ _ _ _ og hri (hal2 _ (List.getElem_mem hlt)) (hal2 _ (List.getElem_mem hlt))).mono ?_
    rintro _ u2 ⟨⟨w1, rfl, e2⟩, g2⟩
    obtain rfl : w1 = true := e2.2 (SameO.self _)
    have g02 := g01.trans (g2.weaken g01.next)
    refine ⟨fun _ => LA.Stay.toA hBl (g2.weaken (by have := g01.next; omega)), ?_⟩
    have wB : ∀ b, valEq (.bool b) (.bool b) = true := fun b => by cases b <;> rfl
    have hB2 := hBk _ g02
    have hfin : ∀ f : AFr, f.n = 144 → f.get 0 = x → f.get 8 = .pointer (some ⟨u.next + 1, 0, some 6⟩) → True := fun _ _ _ _ => trivial
    clear hfin
    by_cases hi0 : i = 0
    · have d0 : ¬ (0 : Int) < (i : Int) := by omega
      simp (config := { maxSteps := 1000000, implicitDefEqProofs := false }) (disch := omega) only [allW, allR, allL, allB, Nat.sub_self, Nat.add_one_sub_one, Nat.reduceSub, oneOf, evalAll, partsA, optA, Nat.reduceLT, Nat.reduceLeDiff, Nat.reduceEqDiff, Nat.reduceAdd, ↓reduceIte, hn, h0, h8, h10, wB, valEq_int, eq_false d0, Bool.not_true, wrapI]
      exact wround_next (D.length - (i + 1)) (by omega) ⟨i + 1, rfl, by omega, hB2, by simp only [get_put, n_put, ↓reduceIte, Nat.reduceEqDiff, hn], by simp only [get_put, n_put, ↓reduceIte, Nat.reduceEqDiff, h0], by simp only [get_put, n_put, ↓reduceIte, Nat.reduceEqDiff, h8], by simp only [get_put, n_put, ↓reduceIte, Nat.reduceEqDiff]; rfl⟩
    · have d0 : (0 : Int) < (i : Int) := by omega
      have hd2 := hdS _ hB2
      have hlt1 : i < (putAll [] D).length := by rw [hSl]; exact hlt
      have hlt0 : i - 1 < (putAll [] D).length := by omega
      have hlt0' : i - 1 < D.length := by omega
      have iy := hd2.indexAddr (P := Try.prog) (k := .i64) (x := (i : Int)) Try.underlying24 szE (by omega) (by omega)
      rw [Int.toNat_natCast] at iy
      have iz := hd2.indexAddr (P := Try.prog) (k := .i64) (x := (i : Int) - 1) Try.underlying24 szE (by omega) (by omega)
      rw [show ((i : Int) - 1).toNat = i - 1 by omega] at iz
      obtain ⟨y0, _⟩ := efE hd2 hlt
      obtain ⟨z0, _⟩ := efE hd2 hlt0'
      obtain ⟨r1, hr1y, -, -⟩ := rd9.row i hlt1
      obtain ⟨hky, -⟩ := chunk6 hr1y
      obtain ⟨r2, hr2y, -, -⟩ := rd9.row (i - 1) hlt0
      obtain ⟨hkz, -⟩ := chunk6 hr2y
      have lky := hd2.loadField (P := Try.prog) agStr hlt (j := 0) (by omega)
      rw [Nat.add_zero, hky] at lky
      have lkz := hd2.loadField (P := Try.prog) agStr hlt0' (j := 0) (by omega)
      rw [Nat.add_zero, hkz] at lkz
      have pY := fun j => LA.lowV_plus (hdS t hst') hBo hlt j
      have pZ := fun j => LA.lowV_plus (hdS t hst') hBo hlt0' j
      obtain ⟨q, hq⟩ : ∃ q, i = q + 1 := ⟨i - 1, by omega⟩
      have hup : (Op.bytesLess (putAll [] D)[i].1 ((putAll [] D)[i - 1]'hlt0).1 || (putAll [] D)[i].1 == ((putAll [] D)[i - 1]'hlt0).1) = false := by
        have h1 := lessB_total (putAll [] D)[i].1 ((putAll [] D)[i - 1]'hlt0).1
        have h2 : lessB ((putAll [] D)[i - 1]'hlt0).1 (putAll [] D)[i].1 = true := by
          subst hq
          exact putAll_rises halk hpw hlt1
        rw [h2] at h1
        exact h1
      simp (config := { maxSteps := 1000000, implicitDefEqProofs := false }) (disch := omega) only [allW, allR, allL, allB, Nat.sub_self, Nat.add_one_sub_one, Nat.reduceSub, oneOf, evalAll, partsA, optA, Nat.reduceLT, Nat.reduceLeDiff, Nat.reduceEqDiff, Nat.reduceAdd, ↓reduceIte, hn, h0, h8, h10, l8, pY, pZ, wB, valEq_int, valEq_string, valEq_elemPtr, valEq_plus, hd2.self, eq_true d0, Bool.not_true, of4, zD _ hB2, iy, iz, y0, z0, lky, lkz, str_leq, hup, wrapI]
      exact wround_next (D.length - (i + 1)) (by omega) ⟨i + 1, rfl, by omega, hB2, by simp only [get_put, n_put, ↓reduceIte, Nat.reduceEqDiff, hn], by simp only [get_put, n_put, ↓reduceIte, Nat.reduceEqDiff, h0], by simp only [get_put, n_put, ↓reduceIte, Nat.reduceEqDiff, h8], by simp only [get_put, n_put, ↓reduceIte, Nat.reduceEqDiff]; rfl⟩
  clear hn h0 h8 h9 f
  rintro z f t ⟨rfl, hn⟩
  simp (config := { maxSteps := 1000000, implicitDefEqProofs := false }) (disch := omega) only [allW, allR, wfn_ret, wfn_normal, oneOf, evalAll, partsA, optA, Nat.reduceLT, Nat.reduceLeDiff, Nat.reduceEqDiff, Nat.reduceAdd, ↓reduceIte, hn, Try.results6]
  rw [hQQ]

theorem own : ownKnob Try.prog.godebug = none := by kernel_rfl
theorem sound : progOk Try.prog libN = true := by kernel_rfl
theorem laid : laidOutB Try.prog = true := by kernel_rfl
theorem read : ∀ t ∈ Try.f6.params.toList, Try.prog.readableRec t = true ∧ t < Try.prog.types.size := by
  have : (Try.f6.params.toList.all fun t => Try.prog.readableRec t && decide (t < Try.prog.types.size)) = true := by kernel_rfl
  intro t ht
  simpa using List.all_eq_true.mp this t ht
set_option maxRecDepth 100000 in
theorem lifted (os : Os) (started : os.Started) (H : Type) (enc : TypeId × Value → H) :
    ReturnsInHanded {} Try.checked os 6 .any (Rows.cosOrderSpec.pre6 enc Try.prog Try.f6 Rows.cosOrderRow.domain false) (Rows.cosOrderSpec.post enc Try.prog Try.f6 false true false false) := by
  refine returnsInHanded_of_change_sized (C := Try.checked) own started (by kernel_rfl) Try.func6
    (ChangeSpec.witness6 (enc := enc) (C := Try.checked) false ⟨#[], #[.slice none 0 0, .int .u8 0], []⟩ 8 (by kernel_rfl) (by kernel_rfl) (by kernel_rfl) (by kernel_rfl)) ?_
  intro W base args ds gs before hval hW hcnd hsz _
  obtain ⟨p, q, hA, _, _, _, _⟩ := id hW
  have hA : DataW.TrodAll enc Try.prog W 0 (fun _ => true) true Try.f6.params.toList args.toList ds p := hA
  rw [Try.params6] at hA
  obtain ⟨v0, v1, d0, d1, p0, p1, rfl, rfl, rfl, h0, h1⟩ := trodAll_two hA
  have hv0 : Value.okWide Try.prog W .any base 24 v0 := hval 0 _ _ (by rw [Try.params6]; rfl) rfl
  have hw0 : Wt Try.prog 24 d0 := fun n hn => by simpa using List.all_eq_true.1 hsz n (DataW.weights_mem_each (j := 0) (t := 24) (d := d0) (by rw [Try.params6]; rfl) rfl n hn)
  have hv1 : Value.okWide Try.prog W .any base 5 v1 := hval 1 _ _ (by rw [Try.params6]; rfl) rfl
  obtain ⟨S0, x0, l0, D0, hg0, hr0, hs0, hq0, hp0, hk0⟩ := arg_ents (Begun.start W) h0 hw0 hv0
  obtain ⟨n1, rfl, _, _, hz1⟩ := open_int Try.underlying5 hv1 h1
  have hcalls := Runs.callsL libFr (libOk _) sound rfl hg0.begun (law S0.s x0 D0 l0 hs0 hq0 hp0 hk0 n1 hz1) (args' := #[v0, .int .u8 n1]) (VRL.cons hr0 (VRL.cons (.int _ _) VRL.nil))
  refine hcalls.mono fun e W' ⟨he, hb⟩ => ?_
  subst he
  exact law_post laid read rfl Try.underlying4 rfl (fun L hL => by match L, hL with | [a0, a1], _ => rfl) hW hb

theorem over : Rows.cosOrderRow.holds Try.pinned (OpenSpec.ofChange Rows.cosOrderSpec) :=
  OpenClaim.holds_of_wide 6 Try.f6 rfl rfl rfl rfl rfl rfl rfl ⟨rfl, rfl, rfl, rfl, rfl⟩ rfl rfl rfl rfl rfl (by kernel_rfl) Try.func6 (by kernel_rfl)
    (of_decide_eq_true (by kernel_rfl)) (by unfold Func.isWrapper; first | (rw [if_pos (by decide +kernel)]; kernel_rfl) | (rw [if_neg (by decide +kernel)]; exact ⟨rfl, rfl⟩))
    (fun os started H enc _ => lifted os started H enc)

/-- THE STATEMENT. -/
theorem proved : Rows.CosOrderSaid := over
#print axioms proved
end Go.Proofs.Ytdhdhbkikhedlaa.cosOrder
