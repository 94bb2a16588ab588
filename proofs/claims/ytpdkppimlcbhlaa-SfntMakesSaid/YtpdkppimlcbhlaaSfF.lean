/-
  Fonts in tables, the program: the font that bytes are.
-/
import Derived.Test.YtpdkppimlcbhlaaSfE
set_option linter.unusedSimpArgs false
set_option linter.unusedVariables false
set_option maxRecDepth 100000
namespace Go.Cl
theorem buildV5 {P : Program} {s : ASt} {t e : TypeId} {zv a b c d g : Value} (hu : P.underlying t = some (.slice e)) (hsz : sizeB P e = some 1) (hz : zeroB P e = some zv) (hpl : plainV zv = true) (hzl : ∃ w, zv.cells.toList = [w]) (h1 : a.cells.toList = [a]) (h2 : b.cells.toList = [b]) (h3 : c.cells.toList = [c]) (h4 : d.cells.toList = [d]) (h5 : g.cells.toList = [g]) : buildSliceA P s t 5 [(0, a), (1, b), (2, c), (3, d), (4, g)] = newSlice s [a, b, c, d, g] 5 1 := by
  obtain ⟨w, hw⟩ := hzl
  unfold buildSliceA; rw [hu]; simp only [hsz, hz, hpl, hw, repeatL, fillA, h1, h2, h3, h4, h5, List.length_singleton]; rfl
theorem MapVs.lookup0 {P : Program} {t kt et : TypeId} (hu : P.underlying t = some (.map kt et)) (hk : P.underlying kt = some .string) {z : Value} (hz : zeroB P et = some z) (hp : plainV z = true) {s : ASt} {r : Nat} {T : List (List UInt8 × Value)} (h : MapVs s r T) (k : List UInt8) :
    lookupA P s t (.map (some r)) (.string ⟨k.toArray⟩) false = some ((seekV k T).getD z) := by
  unfold lookupA
  rw [hu]
  have hkk : keyKind P kt (.string ⟨k.toArray⟩) = true := by unfold keyKind; rw [hk]
  simp only [hz, hkk, hp, if_true, h.map, findAV_str hk]
  cases seekV k T <;> rfl
namespace Sf
def nm (k : Nat) : List UInt8 := [nHead, nHhea, nMaxp, nHmtx, nCmap].getD k []
theorem fontX_err {b : List UInt8} {e : Nat} (h : tabsX b = .error e) (n0 : Nat) : fontX n0 b = .error e := by unfold fontX; rw [h]
theorem fontX_no {b : List UInt8} {T : List Tab} (h : tabsX b = .ok T) (n0 : Nat) {k : Nat} (hk : k < 5) (hn : lookT T (nm k) = none) : fontX n0 b = .error n0 := by
  unfold fontX; rw [h]
  have : k = 0 ∨ k = 1 ∨ k = 2 ∨ k = 3 ∨ k = 4 := by omega
  rcases this with rfl | rfl | rfl | rfl | rfl
  · rw [show nm 0 = nHead from rfl] at hn; dsimp only; rw [hn]; try (split <;> simp_all)
  · rw [show nm 1 = nHhea from rfl] at hn; dsimp only; rw [hn]; try (split <;> simp_all)
  · rw [show nm 2 = nMaxp from rfl] at hn; dsimp only; rw [hn]; try (split <;> simp_all)
  · rw [show nm 3 = nHmtx from rfl] at hn; dsimp only; rw [hn]; try (split <;> simp_all)
  · rw [show nm 4 = nCmap from rfl] at hn; dsimp only; rw [hn]; try (split <;> simp_all)
theorem fontX_yes {b : List UInt8} {T : List Tab} (h : tabsX b = .ok T) (n0 : Nat) {x0 x1 x2 x3 x4 : List UInt8} (h0 : lookT T nHead = some x0) (h1 : lookT T nHhea = some x1) (h2 : lookT T nMaxp = some x2) (h3 : lookT T nHmtx = some x3) (h4 : lookT T nCmap = some x4) :
    fontX n0 b = if badM x0 x1 x2 x3 then .error 4 else match cmapX n0 (half x2 4) x4 with
        | .error e => .error e
        | .ok m => .ok ⟨half x0 18, half x2 4, (List.range (half x1 34)).map fun i => half x3 (4 * i), m⟩ := by
  unfold fontX; rw [h]
  simp only [h0, h1, h2, h3, h4]
  rfl
theorem look_len {b : List UInt8} : ∀ (k i : Nat) (out T : List Tab), tabsF b k i out = .ok T → (∀ e ∈ out, e.2.length ≤ b.length) → ∀ e ∈ T, e.2.length ≤ b.length := by
  intro k
  induction k with
  | zero => intro i out T h ho; rw [tabsF] at h; injection h with h; subst h; exact ho
  | succ k ih =>
    intro i out T h ho
    rw [tabsF] at h
    split at h
    · cases h
    · refine ih _ _ _ h (fun e he => ?_)
      rcases List.mem_append.mp he with q | q
      · exact ho e q
      · rw [List.mem_singleton.mp q]; simp only [List.length_take, List.length_drop]; omega
theorem tabsX_len {b : List UInt8} {T : List Tab} (h : tabsX b = .ok T) : ∀ e ∈ T, e.2.length ≤ b.length := by
  unfold tabsX at h
  split at h
  · cases h
  split at h
  · cases h
  split at h
  · cases h
  exact look_len _ _ _ _ h (fun e he => by cases he)
theorem look_mem {T : List Tab} {n x : List UInt8} (h : lookT T n = some x) : ∃ e ∈ T, e.2 = x := by
  unfold lookT at h
  obtain ⟨e, he, rfl⟩ := Option.map_eq_some_iff.mp h
  exact ⟨e, List.mem_of_find?_eq_some he, rfl⟩
theorem tabsF_err {b : List UInt8} {e : Nat} : ∀ (k i : Nat) (out : List Tab), tabsF b k i out = .error e → e = 4 := by
  intro k
  induction k with
  | zero => intro i out h; rw [tabsF] at h; cases h
  | succ k ih =>
    intro i out h
    rw [tabsF] at h
    split at h
    · injection h with h; exact h.symm
    · exact ih _ _ h
theorem tabsX_err {b : List UInt8} {e : Nat} (h : tabsX b = .error e) : e = 2 ∨ e = 4 := by
  unfold tabsX at h
  split at h
  · injection h with h; exact .inl h.symm
  split at h
  · injection h with h; exact .inr h.symm
  split at h
  · injection h with h; exact .inl h.symm
  exact .inr (tabsF_err _ _ _ h)
theorem mapX_err {g : Nat} {c : List UInt8} {p e : Nat} (h : mapX g c p = .error e) : e = 4 := by
  unfold mapX at h
  split at h
  · injection h with h; exact h.symm
  split at h
  · cases h
  · injection h with h; exact h.symm
theorem cmapF_err {n0 g : Nat} {c : List UInt8} {e : Nat} : ∀ k i, cmapF n0 g c k i = .error e → e = n0 ∨ e = 4 := by
  intro k
  induction k with
  | zero => intro i h; rw [cmapF] at h; injection h with h; exact .inl h.symm
  | succ k ih =>
    intro i h
    rw [cmapF] at h
    split at h
    · exact .inr (mapX_err h)
    · exact ih _ h
theorem cmapX_err {n0 g : Nat} {c : List UInt8} {e : Nat} (h : cmapX n0 g c = .error e) : e = n0 ∨ e = 4 := by
  unfold cmapX at h
  split at h
  · injection h with h; exact .inr h.symm
  · exact cmapF_err _ _ h
end Sf
end Go.Cl
namespace Go.Proofs.Ytpdkppimlcbhlaa
open Go.Cl Go.Cl.Sf
theorem sfSzStr : sizeB Try.prog 9 = some 1 := by kernel_rfl
theorem sfAgStr : isAggB Try.prog 9 = some false := by kernel_rfl
theorem sfZStr : zeroB Try.prog 9 = some (.string ⟨#[]⟩) := by kernel_rfl
theorem sfZFont : buildA Try.prog 35 [] = some (.agg #[.int .i64 0, .int .i64 0, .slice none 0 0, .slice none 0 0]) := by kernel_rfl
theorem sfSzFont : sizeB Try.prog 35 = some 4 := by kernel_rfl
def strsV : List Value := [.string ⟨nHead.toArray⟩, .string ⟨nHhea.toArray⟩, .string ⟨nMaxp.toArray⟩, .string ⟨nHmtx.toArray⟩, .string ⟨nCmap.toArray⟩]
theorem strsV_at {k : Nat} (hk : k < 5) : strsV.getD k undef = .string ⟨(nm k).toArray⟩ := by
  have : k = 0 ∨ k = 1 ∨ k = 2 ∨ k = 3 ∨ k = 4 := by omega
  rcases this with rfl | rfl | rfl | rfl | rfl <;> rfl
/-- A font in memory. -/
def FontIs (base : Nat) (s : ASt) (q : Nat) (F : Fnt) : Prop :=
  base ≤ q ∧ ∃ w g, Thing s q [.int .i64 (F.units : Nat), .int .i64 (F.glyphs : Nat), w, g] ∧ Own s 1 w F.widths.length (natsV F.widths) ∧ Own s 1 g F.map.length (natsV F.map) ∧ Fresh base w ∧ Fresh base g
def ReadX (base : Nat) (v : Value) (s' : ASt) : Except Nat Fnt → Prop
  | .error e => v = .tuple #[.pointer none, .int .i64 (e : Nat)]
  | .ok F => ∃ q, v = .tuple #[fptr q, .int .i64 0] ∧ FontIs base s' q F
set_option maxHeartbeats 32000000 in
theorem read_any (s : ASt) (x : Value) (l : List UInt8) (hx : Sees s 1 x l.length (ofBytes l)) (hlen : l.length ≤ 100000000) :
    Runs Try.prog libN 8 [x] s fun v s' => ReadX s.next v s' (fontX 8 l) ∧ Stay s.next s s' := by
  refine Runs.enter 58 Try.func8 rfl rfl rfl rfl ?_
  intro f hn hf
  have h0 : f.get 0 = x := hf 0
  clear hf
  simp (config := { maxSteps := 1000000, implicitDefEqProofs := false }) (disch := omega) only [allW, allR, oneOf, evalAll, partsA, optA, Nat.reduceLT, Nat.reduceLeDiff, Nat.reduceEqDiff, Nat.reduceAdd, ↓reduceIte, hn, h0]
  refine (tables_any s x l hx hlen).mono ?_
  rintro v s1 ⟨hv, hst1⟩
  cases hr : tabsX l with
  | error e =>
    rw [hr] at hv
    rw [show v = _ from hv, fontX_err hr]
    have he := tabsX_err hr
    have d : ((e : Nat) : Int) ≠ 0 := by omega
    simp (config := { maxSteps := 1000000, implicitDefEqProofs := false }) (disch := omega) only [allW, allR, wfn_ret, wfn_normal, oneOf, evalAll, partsA, optA, Nat.reduceLT, Nat.reduceLeDiff, Nat.reduceEqDiff, Nat.reduceAdd, ↓reduceIte, hn, h0, extT0, extT1, bin_neq, decide_eq_true d, ReadX, Try.results8]
    exact hst1
  | ok T =>
  rw [hr] at hv
  obtain ⟨r, E, rfl, hTE, hTM, hrb⟩ := hv
  have hz : ¬ (0 : Int) ≠ 0 := by decide
  simp (config := { maxSteps := 1000000, implicitDefEqProofs := false }) (disch := omega) only [allW, allR, oneOf, evalAll, partsA, optA, Nat.reduceLT, Nat.reduceLeDiff, Nat.reduceEqDiff, Nat.reduceAdd, ↓reduceIte, hn, h0, extT0, extT1, hz, buildV5 (a := .string { data := #[104, 101, 97, 100] }) (b := .string { data := #[104, 104, 101, 97] }) (c := .string { data := #[109, 97, 120, 112] }) (d := .string { data := #[104, 109, 116, 120] }) (g := .string { data := #[99, 109, 97, 112] }) Try.underlying52 sfSzStr sfZStr rfl ⟨_, rfl⟩ rfl rfl rfl rfl rfl]
  refine wstep_newSlice (by rfl) ?_
  intro v s2 hv hvF hst2
  have hv : Own s2 1 v 5 strsV := hv
  have hn2 := hst2.next
  have hn1 := hst1.next
  have hM2 := hTM.map.keeps hst2
  have hT2 := hTM.tabs.keeps hst2
  simp (config := { maxSteps := 1000000, implicitDefEqProofs := false }) (disch := omega) only [allW, allR, oneOf, evalAll, partsA, optA, Nat.reduceLT, Nat.reduceLeDiff, Nat.reduceEqDiff, Nat.reduceAdd, ↓reduceIte, hn, hv.sees.lenA Try.underlying52]
  refine Comes.loopAt (fun z f t => ∃ k : Nat, z = 5 - k ∧ k ≤ 5 ∧ (∀ j, j < k → (lookT T (nm j)).isSome) ∧ MapVs t r (mapO E) ∧ Tabs [] t (curO E) ∧ Own t 1 v 5 strsV ∧ Stay s1.next s1 t ∧ f.n = 58 ∧ f.get 4 = .map (some r) ∧ f.get 20 = v ∧ f.get 21 = .int .i64 5 ∧ f.get 22 = .int .i64 (k : Nat))
    ⟨0, rfl, by omega, (fun j hj => by omega), hM2, hT2, hv, hst2, by simp only [get_put, n_put, ↓reduceIte, Nat.reduceEqDiff, hn], by simp only [get_put, n_put, ↓reduceIte, Nat.reduceEqDiff], by simp only [get_put, n_put, ↓reduceIte, Nat.reduceEqDiff], by simp only [get_put, n_put, ↓reduceIte, Nat.reduceEqDiff]; rfl, by simp only [get_put, n_put, ↓reduceIte, Nat.reduceEqDiff]; rfl⟩ ?_
  clear hn h0 f hM2 hT2 hv hst2 hn2
  rintro z f t ⟨k, rfl, hk, hall, hM, hT, hv, hst, hn, h4, h20, h21, h22⟩
  have hst' : Stay s.next s t := hst1.trans (hst.weaken hn1)
  have hnt := hst.next
  by_cases hlt : k < 5
  · have d : (k : Int) < 5 := by omega
    have hix := hv.sees.indexAddr (P := Try.prog) (k := .i64) (x := (k : Int)) Try.underlying52 sfSzStr (by omega) (by omega)
    rw [Int.toNat_natCast] at hix
    have hl := hv.sees.load1 (P := Try.prog) sfAgStr hlt
    rw [strsV_at hlt] at hl
    have hlk := hM.lookup (P := Try.prog) Try.underlying49 Try.underlying9 zTab plTab (nm k)
    have hd2' : [Value.pointer none].length + 1 = 2 := rfl
    cases hlo : lookT T (nm k) with
    | none =>
      have hsk := look_no (E := E) (k := nm k) (by rw [← hTE]; exact hlo)
      rw [hsk, Option.getD_none, Option.isSome_none] at hlk
      simp (config := { maxSteps := 1000000, implicitDefEqProofs := false }) (disch := omega) only [allW, allR, oneOf, evalAll, partsA, optA, Nat.reduceLT, Nat.reduceLeDiff, Nat.reduceEqDiff, Nat.reduceAdd, ↓reduceIte, hn, h4, h20, h21, h22, eq_true d, hix, hl, hlk, extT0, extT1, szTab, zTab, plTab, zTabCells]
      refine wstep_newPtr ?_
      intro t1 ht1 hst1' hnx1
      simp (config := { maxSteps := 1000000, implicitDefEqProofs := false }) (disch := omega) only [allW, allR, oneOf, evalAll, partsA, optA, Nat.reduceLT, Nat.reduceLeDiff, Nat.reduceEqDiff, Nat.reduceAdd, ↓reduceIte, hn, h4, h20, h21, h22, extT0, extT1, hd2']
      refine wstep_storeAll szTab (by decide) ht1 rfl rfl (vs := #[.pointer none]) rfl rfl ?_
      intro t2 ht2 hnx2 hot2
      simp (config := { maxSteps := 1000000, implicitDefEqProofs := false }) (disch := omega) only [allW, allR, wfn_ret, wfn_normal, oneOf, evalAll, partsA, optA, Nat.reduceLT, Nat.reduceLeDiff, Nat.reduceEqDiff, Nat.reduceAdd, ↓reduceIte, hn, h4, h20, h21, h22, Bool.not_false, Try.results8]
      rw [fontX_no hr 8 hlt hlo]
      exact ⟨rfl, (hst'.trans (hst1'.weaken hst'.next)).trans ⟨by omega, fun j hj => hot2 j (by have := hst'.next; omega)⟩⟩
    | some y =>
      obtain ⟨iy, hiy, _⟩ := look_at (E := E) (k := nm k) (by rw [← hTE]; exact hlo)
      rw [hiy, Option.getD_some, Option.isSome_some] at hlk
      simp (config := { maxSteps := 1000000, implicitDefEqProofs := false }) (disch := omega) only [allW, allR, oneOf, evalAll, partsA, optA, Nat.reduceLT, Nat.reduceLeDiff, Nat.reduceEqDiff, Nat.reduceAdd, ↓reduceIte, hn, h4, h20, h21, h22, eq_true d, hix, hl, hlk, extT0, extT1, szTab, zTab, plTab, zTabCells]
      refine wstep_newPtr ?_
      intro t1 ht1 hst1' hnx1
      simp (config := { maxSteps := 1000000, implicitDefEqProofs := false }) (disch := omega) only [allW, allR, oneOf, evalAll, partsA, optA, Nat.reduceLT, Nat.reduceLeDiff, Nat.reduceEqDiff, Nat.reduceAdd, ↓reduceIte, hn, h4, h20, h21, h22, extT0, extT1, hd2']
      refine wstep_storeAll szTab (by decide) ht1 rfl rfl (vs := #[cptr iy]) rfl rfl ?_
      intro t2 ht2 hnx2 hot2
      have hst2 : Stay t.next t t2 := hst1'.trans ⟨by omega, fun j hj => hot2 j (by omega)⟩
      simp (config := { maxSteps := 1000000, implicitDefEqProofs := false }) (disch := omega) only [allW, allR, oneOf, evalAll, partsA, optA, Nat.reduceLT, Nat.reduceLeDiff, Nat.reduceEqDiff, Nat.reduceAdd, ↓reduceIte, hn, h4, h20, h21, h22, Bool.not_true, wrapI]
      refine wround_next (5 - (k + 1)) (by omega) ⟨k + 1, rfl, by omega, (fun j hj => ?_), hM.keeps hst2, hT.keeps hst2, hv.keeps hst2, hst.trans (hst2.weaken hst.next), by simp only [get_put, n_put, ↓reduceIte, Nat.reduceEqDiff, hn], by simp only [get_put, n_put, ↓reduceIte, Nat.reduceEqDiff, h4], by simp only [get_put, n_put, ↓reduceIte, Nat.reduceEqDiff, h20], by simp only [get_put, n_put, ↓reduceIte, Nat.reduceEqDiff, h21], by simp only [get_put, n_put, ↓reduceIte, Nat.reduceEqDiff]; rfl⟩
      by_cases hj' : j = k
      · rw [hj', hlo]; rfl
      · exact hall j (by omega)
  obtain rfl : k = 5 := by omega
  have d : ¬ ((5 : Nat) : Int) < 5 := by omega
  obtain ⟨x0, g0⟩ := Option.isSome_iff_exists.mp (hall 0 (by omega))
  obtain ⟨x1, g1⟩ := Option.isSome_iff_exists.mp (hall 1 (by omega))
  obtain ⟨x2, g2⟩ := Option.isSome_iff_exists.mp (hall 2 (by omega))
  obtain ⟨x3, g3⟩ := Option.isSome_iff_exists.mp (hall 3 (by omega))
  obtain ⟨x4, g4⟩ := Option.isSome_iff_exists.mp (hall 4 (by omega))
  have hyes := fontX_yes hr 8 (show lookT T nHead = some x0 from g0) (show lookT T nHhea = some x1 from g1) (show lookT T nMaxp = some x2 from g2) (show lookT T nHmtx = some x3 from g3) (show lookT T nCmap = some x4 from g4)
  obtain ⟨i0, e0, m0⟩ := look_at (E := E) (k := nm 0) (by rw [← hTE]; exact g0)
  obtain ⟨i1, e1, m1⟩ := look_at (E := E) (k := nm 1) (by rw [← hTE]; exact g1)
  obtain ⟨i2, e2, m2⟩ := look_at (E := E) (k := nm 2) (by rw [← hTE]; exact g2)
  obtain ⟨i3, e3, m3⟩ := look_at (E := E) (k := nm 3) (by rw [← hTE]; exact g3)
  obtain ⟨i4, e4, m4⟩ := look_at (E := E) (k := nm 4) (by rw [← hTE]; exact g4)
  have hxl : ∀ {n x : List UInt8}, lookT T n = some x → x.length ≤ 100000000 := fun h => by
    obtain ⟨e, he, rfl⟩ := look_mem h
    have := tabsX_len hr e he
    omega
  have cF : (Value.agg #[.int .i64 0, .int .i64 0, .slice none 0 0, .slice none 0 0]).cells.toList = [.int .i64 0, .int .i64 0, .slice none 0 0, .slice none 0 0] := rfl
  simp (config := { maxSteps := 1000000, implicitDefEqProofs := false }) (disch := omega) only [allW, allR, oneOf, evalAll, partsA, optA, Nat.reduceLT, Nat.reduceLeDiff, Nat.reduceEqDiff, Nat.reduceAdd, ↓reduceIte, hn, h4, h20, h21, h22, eq_false d, sfZFont, sfSzFont, cF]
  refine wstep_newPtr ?_
  intro t1 hq1 hst1' hnx1
  rw [fcells]
  obtain ⟨q, hq⟩ : ∃ q, q = t.next := ⟨_, rfl⟩
  rw [← hq] at hq1 ⊢
  have hT1 := hT.keeps hst1'
  have hM1 := hM.keeps hst1'
  have hTlt := hT.lt
  have hqL : ∀ e ∈ curO E, e.1 < q := fun e he => by have := hTlt e.1 (List.mem_map_of_mem he); omega
  simp (config := { maxSteps := 1000000, implicitDefEqProofs := false }) (disch := omega) only [allW, allR, oneOf, evalAll, partsA, optA, Nat.reduceLT, Nat.reduceLeDiff, Nat.reduceEqDiff, Nat.reduceAdd, ↓reduceIte, hn, h4, h20, h21, h22]
  refine LB.Drawn.looseK (fun j => false) (fun j h => by cases h) 0 0 (by kernel_rfl) (by kernel_rfl) ?_
  rw [spare_zero]
  have q0 : lookupA Try.prog t1 49 (.map (some r)) (.string { data := #[104, 101, 97, 100] }) false = some (tabV i0) := by
    have := hM1.lookup0 (P := Try.prog) Try.underlying49 Try.underlying9 zTab plTab (nm 0); rw [e0] at this; exact this
  have q1 : lookupA Try.prog t1 49 (.map (some r)) (.string { data := #[104, 104, 101, 97] }) false = some (tabV i1) := by
    have := hM1.lookup0 (P := Try.prog) Try.underlying49 Try.underlying9 zTab plTab (nm 1); rw [e1] at this; exact this
  have q2 : lookupA Try.prog t1 49 (.map (some r)) (.string { data := #[109, 97, 120, 112] }) false = some (tabV i2) := by
    have := hM1.lookup0 (P := Try.prog) Try.underlying49 Try.underlying9 zTab plTab (nm 2); rw [e2] at this; exact this
  have q3 : lookupA Try.prog t1 49 (.map (some r)) (.string { data := #[104, 109, 116, 120] }) false = some (tabV i3) := by
    have := hM1.lookup0 (P := Try.prog) Try.underlying49 Try.underlying9 zTab plTab (nm 3); rw [e3] at this; exact this
  have hvt : ∀ i, valEq (tabV i) (tabV i) = true := fun i => by simp [valEq, valEqL, valEq1]
  simp (config := { maxSteps := 1000000, implicitDefEqProofs := false }) (disch := omega) only [allW, allR, allL, allB, Nat.sub_self, Nat.add_one_sub_one, Nat.reduceSub, oneOf, evalAll, partsA, optA, Nat.reduceLT, Nat.reduceLeDiff, Nat.reduceEqDiff, Nat.reduceAdd, ↓reduceIte, hn, h4, h20, h21, h22, q0, q1, q2, q3, ff0, quiet_lookup, LA.low_lookup, hvt, valEq_pointer, valEq_mapV, Nat.add_zero]
  refine (metrics_any t1 [] q (.slice none 0 0) (curO E) i0 i1 i2 i3 x0 x1 x2 x3 hT1 m0 m1 m2 m3 hq1 hqL (hxl g0) (hxl g1) (hxl g2) (hxl g3)).mono ?_
  have hge : ∀ j ∈ q :: idsT (curO E), s.next ≤ j := by
    intro j hj
    rcases List.mem_cons.mp hj with h | h
    · have := hst'.next; omega
    · obtain ⟨e, he, rfl⟩ := List.mem_map.mp h
      obtain ⟨e', he', rfl⟩ := List.mem_map.mp he
      have := hTM.up e' he'
      omega
  have hst1q : Stay s.next s t1 := hst'.trans (hst1'.weaken hst'.next)
  have hrn : r ∉ q :: idsT (curO E) := by
    intro hj
    rcases List.mem_cons.mp hj with h | h
    · have := hM.lt; omega
    · obtain ⟨e, he, h⟩ := List.mem_map.mp h
      obtain ⟨e', he', rfl⟩ := List.mem_map.mp he
      have := hTM.up e' he'
      omega
  rintro b t2 (⟨hbad, rfl, hto⟩ | ⟨hgood, rfl, hT2, hto2, w, hq2, hw, hwF⟩)
  · refine ⟨fun h => h.elim, ?_⟩
    simp (config := { maxSteps := 1000000, implicitDefEqProofs := false }) (disch := omega) only [allW, allR, allL, allB, Nat.sub_self, Nat.add_one_sub_one, Nat.reduceSub, oneOf, evalAll, partsA, optA, Nat.reduceLT, Nat.reduceLeDiff, Nat.reduceEqDiff, Nat.reduceAdd, ↓reduceIte, wfn_ret, hn, un_not, Bool.not_false, valEq_bool, Try.results8]
    rw [hyes, if_pos hbad]
    exact ⟨rfl, hst1q.trans (hto.keeps hge hst1q.next)⟩
  refine ⟨fun h => h.elim, ?_⟩
  have hM2 := hM1.cto hto2 hrn
  have q4 : lookupA Try.prog t2 49 (.map (some r)) (.string { data := #[99, 109, 97, 112] }) false = some (tabV i4) := by
    have := hM2.lookup0 (P := Try.prog) Try.underlying49 Try.underlying9 zTab plTab (nm 4); rw [e4] at this; exact this
  rw [if_neg hgood] at hyes
  simp (config := { maxSteps := 1000000, implicitDefEqProofs := false }) (disch := omega) only [allW, allR, allL, allB, Nat.sub_self, Nat.add_one_sub_one, Nat.reduceSub, oneOf, evalAll, partsA, optA, Nat.reduceLT, Nat.reduceLeDiff, Nat.reduceEqDiff, Nat.reduceAdd, ↓reduceIte, hn, h4, un_not, Bool.not_true, valEq_bool, q4]
  refine (map0_any t2 [] q _ (half x2 4) w (curO E) i4 x4 hT2 m4 hq2 hqL (hxl g4)).mono ?_
  intro v3 t3 hv3
  have hst2 : Stay s.next s t2 := hst1q.trans (hto2.keeps hge hst1q.next)
  cases hc : cmapX 8 (half x2 4) x4 with
  | error e =>
    rw [hc] at hv3 hyes
    obtain ⟨rfl, hto3⟩ := hv3
    have he := cmapX_err hc
    have d : ((e : Nat) : Int) ≠ 0 := by omega
    simp (config := { maxSteps := 1000000, implicitDefEqProofs := false }) (disch := omega) only [allW, allR, wfn_ret, wfn_normal, oneOf, evalAll, partsA, optA, Nat.reduceLT, Nat.reduceLeDiff, Nat.reduceEqDiff, Nat.reduceAdd, ↓reduceIte, hn, h4, bin_neq, decide_eq_true d, Try.results8]
    rw [hyes]
    exact ⟨rfl, hst2.trans (hto3.keeps hge hst2.next)⟩
  | ok m =>
    rw [hc] at hv3 hyes
    obtain ⟨rfl, hto3, g, hq3, hg, hgF⟩ := hv3
    have d : ¬ (0 : Int) ≠ 0 := by decide
    simp (config := { maxSteps := 1000000, implicitDefEqProofs := false }) (disch := omega) only [allW, allR, wfn_ret, wfn_normal, oneOf, evalAll, partsA, optA, Nat.reduceLT, Nat.reduceLeDiff, Nat.reduceEqDiff, Nat.reduceAdd, ↓reduceIte, hn, h4, bin_neq, decide_eq_false d, Try.results8]
    rw [hyes]
    have hq1n := hst1q.next
    have hto2n := hto2.next
    have hstn := hst'.next
    refine ⟨⟨q, rfl, by omega, w, g, hq3, ?_, hg, fun i hi => by have := hwF i hi; omega, fun i hi => by have := hgF i hi; omega⟩, hst2.trans (hto3.keeps hge hst2.next)⟩
    have hw3 := hw.cto hto3 (fun i hi hm => by
      have h1 := hwF i hi
      rcases List.mem_cons.mp hm with h | h
      · have := hq1.lt; omega
      · have := hT1.lt i h; omega)
    simp only [List.length_map, List.length_range]
    exact hw3
end Go.Proofs.Ytpdkppimlcbhlaa
