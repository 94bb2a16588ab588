/-
  Fonts in tables, the program: all tables, by their names.
-/
import Derived.Test.YtpdkppimlcbhlaaSfA
import Derived.Test.YtpdkppimlcbhlaaMapV
import Derived.Test.YtpdkppimlcbhlaaMapJ
import Derived.Test.YtpdkppimlcbhlaaStr
import Derived.Test.YtpdkppimlcbhlaaLooseB
import Derived.Test.YtpdkppimlcbhlaaLow
set_option linter.unusedSimpArgs false
set_option linter.unusedVariables false
set_option maxRecDepth 100000
namespace Go.Cl
theorem MapVs.cto {I : List Nat} {s s' : ASt} {r : Nat} {T : List (List UInt8 × Value)} (h : MapVs s r T) (k : CTo I s s') (hne : r ∉ I) : MapVs s' r T := by
  refine ⟨Nat.lt_of_lt_of_le h.lt k.next, ?_⟩
  have := h.map
  simp only [ASt.map?, k.get r h.lt hne] at this ⊢
  exact this
theorem newMapV (s : ASt) : ∃ s', s.new (.map []) = s' ∧ MapVs s' s.next [] ∧ Stay s.next s s' ∧ s'.next = s.next + 1 := by
  refine ⟨_, rfl, ⟨by rw [next_new]; omega, ?_⟩, Stay.new s _, rfl⟩
  simp only [ASt.map?, ASt.new, Tr.get_set_self _ _ _ _ (deep (by omega))]
  rfl
theorem extT0 (a b : Value) : extractA (.tuple #[a, b]) 0 = some a := rfl
theorem extT1 (a b : Value) : extractA (.tuple #[a, b]) 1 = some b := rfl
theorem Thing.same {s : ASt} {i : Nat} {a b : List Value} (h : Thing s i a) (k : Thing s i b) : a = b := by
  obtain ⟨_, _, _, h2, _⟩ := h
  obtain ⟨_, _, _, k2, _⟩ := k
  rw [h2] at k2
  injection k2 with k2
  injection k2
theorem CTo.ofPut {I : List Nat} {s s' : ASt} {i : Nat} (h1 : s'.next = s.next) (h2 : ∀ j, j ≠ i → s'.heap.get j = s.heap.get j) (hi : i ∈ I) : CTo I s s' :=
  ⟨by omega, fun j _ hn => h2 j (fun e => hn (e ▸ hi))⟩
end Go.Cl
namespace Go.Proofs.Ytpdkppimlcbhlaa
open Go.Cl Go.Cl.Sf
/-- Where a cursor stands. -/
def At (s : ASt) (i p : Nat) : Prop := ∃ b, Thing s i [b, .int .i64 (p : Nat)]
theorem At.same {I : List Nat} {s : ASt} {i p : Nat} {l : List UInt8} (h : At s i p) (k : Curs I s i l) : ∃ b, CurB i s i b l p ∧ ∀ j, home b = some j → j < i ∧ j ∉ I := by
  obtain ⟨p', b', h1, h2⟩ := k.curB
  obtain ⟨b, h⟩ := h
  have e := h.same h1.1
  injection e with e1 e2
  injection e2 with e2
  injection e2 with _ e2
  have : p = p' := by omega
  subst this
  exact ⟨b', h1, h2⟩
theorem seek_tab {X : List Nat} {s : ASt} {L : List (Nat × List UInt8)} (h : Tabs X s L) {i : Nat} {l : List UInt8} (hm : (i, l) ∈ L) (n : Int) :
    Runs Try.prog libN 38 [cptr i, .int .i64 n] s fun v s' => v = .bool (decide (0 ≤ n ∧ n ≤ l.length)) ∧ Tabs X s' L ∧ CTo (idsT L) s s' ∧ (0 ≤ n ∧ n ≤ l.length → At s' i n.toNat) := by
  obtain ⟨p, b, hc, hb⟩ := (h.cur _ hm).curB
  refine (seek_b (lib := libN) rfl i s i b l p n hc (Nat.le_of_lt hc.1.lt)).mono ?_
  rintro v s' ⟨rfl, h1, h2⟩
  refine ⟨rfl, h.turn hm (h1.curs hb) (turns_cto h2), (turns_cto h2).mono (fun j hj => by rw [List.mem_singleton.mp hj]; exact List.mem_map_of_mem hm), fun hn => ⟨b, ?_⟩⟩
  rw [if_pos hn] at h1
  exact h1.1
theorem take_tab {X : List Nat} {s : ASt} {L : List (Nat × List UInt8)} (h : Tabs X s L) {i : Nat} {l : List UInt8} (hm : (i, l) ∈ L) {p : Nat} (hp : At s i p) (k : Int) (hlen : l.length ≤ 4294967296) :
    Runs Try.prog libN 39 [cptr i, .int .i64 k] s fun v s' => ∃ B, v = .tuple #[B, .bool (decide (0 ≤ k ∧ k ≤ (l.length - p : Nat)))] ∧ Own s' 1 B (takeIs l p k).length (ofBytes (takeIs l p k)) ∧ Fresh s.next B ∧ Tabs X s' L ∧ CTo (idsT L) s s' := by
  obtain ⟨b, hc, hb⟩ := hp.same (h.cur _ hm)
  refine (ctake_b (lib := libN) rfl rfl rfl rfl rfl i s i b l p k hc (Nat.le_of_lt hc.1.lt) hlen).mono ?_
  rintro v s' ⟨B, rfl, h1, h2, h3, h4⟩
  exact ⟨B, rfl, h1, h2, h.turn hm (h3.curs hb) (turns_cto h4), (turns_cto h4).mono (fun j hj => by rw [List.mem_singleton.mp hj]; exact List.mem_map_of_mem hm)⟩
/-- One more. -/
theorem Tabs.add {X : List Nat} {s s' : ASt} {L : List (Nat × List UInt8)} (h : Tabs X s L) (k : Stay s.next s s') {i : Nat} {l : List UInt8} (hi : s.next ≤ i) {b : Value} (ht : Thing s' i [b, .int .i64 ((0 : Nat) : Int)]) (hs : Sees s' 1 b l.length (ofBytes l)) (hb : ∀ j, home b = some j → j < i ∧ j ∉ X ++ idsT L) : Tabs X s' (L ++ [(i, l)]) := by
  have hid : idsT (L ++ [(i, l)]) = idsT L ++ [i] := by simp [idsT]
  refine ⟨?_, fun e he => ?_⟩
  · show (idsT (L ++ [(i, l)])).Nodup
    rw [hid, List.nodup_append]
    exact ⟨h.nd, by simp, fun a ha b hb' e => by rw [List.mem_singleton.mp hb'] at e; subst e; exact h.later hi ha⟩
  · rw [hid, ← List.append_assoc]
    rcases List.mem_append.mp he with h' | h'
    · obtain ⟨p, b', h1, h2, h3, h4⟩ := h.cur e h'
      have := h1.lt
      exact ⟨p, b', h1.keeps k, h2.keeps k, h3, fun j hj => ⟨(h4 j hj).1, fun hj' => by
        rcases List.mem_append.mp hj' with q | q
        · exact (h4 j hj).2 q
        · rw [List.mem_singleton.mp q] at hj; have := (h4 i hj).1; omega⟩⟩
    · rw [List.mem_singleton.mp h']
      exact ⟨0, b, ht, hs, Nat.zero_le _, fun j hj => ⟨(hb j hj).1, fun hj' => by
        rcases List.mem_append.mp hj' with q | q
        · exact (hb j hj).2 q
        · rw [List.mem_singleton.mp q] at hj; have := (hb i hj).1; omega⟩⟩
theorem Tabs.tail {X : List Nat} {s : ASt} {a : Nat × List UInt8} {L : List (Nat × List UInt8)} (h : Tabs X s (a :: L)) : Tabs X s L :=
  ⟨(List.nodup_cons.mp (by have := h.nd; rw [List.map_cons] at this; exact this)).2, fun e he => by
    obtain ⟨p, b', h1, h2, h3, h4⟩ := h.cur e (List.mem_cons_of_mem _ he)
    exact ⟨p, b', h1, h2, h3, fun j hj => ⟨(h4 j hj).1, fun q => (h4 j hj).2 (by
      rcases List.mem_append.mp q with q | q
      · exact List.mem_append_left _ q
      · exact List.mem_append_right _ (List.mem_cons_of_mem _ q))⟩⟩⟩
/-- A block of X turns. -/
theorem Tabs.ctoX {X I : List Nat} {s s' : ASt} {L : List (Nat × List UInt8)} (h : Tabs X s L) (k : CTo I s s') (hI : ∀ j ∈ I, j ∈ X ∧ j ∉ idsT L) : Tabs X s' L :=
  ⟨h.nd, fun e he => (h.cur e he).cto k (fun j hj => .inl (List.mem_append_left _ (hI j hj).1)) (fun hj => (hI _ hj).2 (List.mem_map_of_mem he))⟩
theorem Tabs.drop {X : List Nat} {s : ASt} {L : List (Nat × List UInt8)} (h : Tabs X s L) : Tabs [] s L :=
  ⟨h.nd, fun e he => by
    obtain ⟨p, b', h1, h2, h3, h4⟩ := h.cur e he
    exact ⟨p, b', h1, h2, h3, fun j hj => ⟨(h4 j hj).1, fun q => (h4 j hj).2 (List.mem_append_right _ q)⟩⟩⟩
/-- A block that is later than what they read. -/
theorem Tabs.take {s : ASt} {L : List (Nat × List UInt8)} (h : Tabs [] s L) {r : Nat} (hr : ∀ e ∈ L, e.1 ≤ r) : Tabs [r] s L :=
  ⟨h.nd, fun e he => by
    obtain ⟨p, b', h1, h2, h3, h4⟩ := h.cur e he
    refine ⟨p, b', h1, h2, h3, fun j hj => ⟨(h4 j hj).1, fun q => ?_⟩⟩
    rcases List.mem_append.mp q with q | q
    · have := (h4 j hj).1; have := hr e he; have := List.mem_singleton.mp q; omega
    · exact (h4 j hj).2 q⟩
/-- A font's tables: their names, their cursors, their bytes. -/
abbrev Ent := List UInt8 × Nat × List UInt8
def bare (E : List Ent) : List Tab := E.map fun e => (e.1, e.2.2)
def curO (E : List Ent) : List (Nat × List UInt8) := E.map fun e => e.2
def mapO (E : List Ent) : List (List UInt8 × Value) := E.map fun e => (e.1, tabV e.2.1)
theorem look_seek (E : List Ent) (k : List UInt8) : (lookT (bare E) k).isSome = (seekV k (mapO E)).isSome := by
  induction E with
  | nil => rfl
  | cons e E ih =>
    simp only [lookT, bare, mapO, List.map_cons, seekV, List.find?_cons]
    by_cases h : e.1 = k
    · subst h; simp
    · have h' : ¬ k = e.1 := fun q => h q.symm
      simp only [h', if_false]
      have : (e.1 == k) = false := by simpa using h
      rw [this]
      exact ih
theorem look_at {E : List Ent} {k : List UInt8} {x : List UInt8} (h : lookT (bare E) k = some x) : ∃ i, seekV k (mapO E) = some (tabV i) ∧ (i, x) ∈ curO E := by
  induction E with
  | nil => simp [lookT, bare] at h
  | cons e E ih =>
    simp only [lookT, bare, List.map_cons, List.find?_cons] at h
    by_cases hk : e.1 = k
    · subst hk
      simp at h
      subst h
      exact ⟨e.2.1, by simp [seekV, mapO], by simp [curO]⟩
    · have h' : ¬ k = e.1 := fun q => hk q.symm
      have hb : (e.1 == k) = false := by simpa using hk
      rw [hb] at h
      obtain ⟨i, h1, h2⟩ := ih h
      exact ⟨i, by simp only [mapO, List.map_cons, seekV, h', if_false]; exact h1, List.mem_cons_of_mem _ h2⟩
theorem look_no {E : List Ent} {k : List UInt8} (h : lookT (bare E) k = none) : seekV k (mapO E) = none := by
  have := look_seek E k
  rw [h] at this
  cases hs : seekV k (mapO E) with
  | none => rfl
  | some v => rw [hs] at this; simp at this
structure TabM (s : ASt) (r : Nat) (E : List Ent) : Prop where
  map : MapVs s r (mapO E)
  tabs : Tabs [] s (curO E)
  up : ∀ e ∈ E, r < e.2.1
def TabsX (base : Nat) (v : Value) (s' : ASt) : Except Nat (List Tab) → Prop
  | .error e => v = .tuple #[.map none, .int .i64 (e : Nat)]
  | .ok T => ∃ r E, v = .tuple #[.map (some r), .int .i64 0] ∧ T = bare E ∧ TabM s' r E ∧ base ≤ r
theorem neqTrue (a : List UInt8) (t : TypeId) : binA Try.prog .neq t (.string ⟨a.toArray⟩) (.string { data := #[116, 114, 117, 101] }) = some (.bool (decide (a ≠ [116, 114, 117, 101]))) := str_neq a [116, 114, 117, 101]
theorem neqOne (a : List UInt8) (t : TypeId) : binA Try.prog .neq t (.string ⟨a.toArray⟩) (.string { data := #[0, 1, 0, 0] }) = some (.bool (decide (a ≠ [0, 1, 0, 0]))) := str_neq a [0, 1, 0, 0]
theorem tabBuild (i : Nat) : buildA Try.prog 55 [(0, cptr i)] = some (tabV i) := by
  unfold buildA; rw [Try.underlying55, zTab]
  have hv : (cptr i).cells.toList = [cptr i] := rfl
  simp only [fillA, placeOf, hv]
  simp [szCurP, plainV, plain1, cells_agg, setAt]
theorem plTab : plainV (.agg #[.pointer none]) = true := rfl
theorem zTabCells : (Value.agg #[.pointer none]).cells.toList = [.pointer none] := rfl
theorem tabsF_le {b : List UInt8} : ∀ {k i : Nat} {out T : List Tab}, tabsF b k i out = .ok T → True := fun _ => trivial
set_option maxHeartbeats 16000000 in
theorem tables_any (s : ASt) (x : Value) (l : List UInt8) (hx : Sees s 1 x l.length (ofBytes l)) (hlen : l.length ≤ 100000000) :
    Runs Try.prog libN 18 [x] s fun v s' => TabsX s.next v s' (tabsX l) ∧ Stay s.next s s' := by
  refine Runs.enter 101 Try.func18 rfl rfl rfl rfl ?_
  intro f hn hf
  have h0 : f.get 0 = x := hf 0
  clear hf
  simp (config := { maxSteps := 1000000, implicitDefEqProofs := false }) (disch := omega) only [allW, allR, oneOf, evalAll, partsA, optA, Nat.reduceLT, Nat.reduceLeDiff, Nat.reduceEqDiff, Nat.reduceAdd, ↓reduceIte, hn, h0]
  refine (new_b (lib := libN) rfl s x l hx).mono ?_
  rintro _ s1 ⟨rfl, ⟨b, hb1, hb2, hb3⟩, hst1, hnx1⟩
  simp (config := { maxSteps := 1000000, implicitDefEqProofs := false }) (disch := omega) only [allW, allR, oneOf, evalAll, partsA, optA, Nat.reduceLT, Nat.reduceLeDiff, Nat.reduceEqDiff, Nat.reduceAdd, ↓reduceIte, hn, h0, tabBuild, szTab, zTab, plTab, zTabCells]
  refine wstep_newPtr ?_
  intro s2 ht2 hst2 hnx2
  have hd2 : [Value.pointer none].length + 1 = 2 := rfl
  simp (config := { maxSteps := 1000000, implicitDefEqProofs := false }) (disch := omega) only [allW, allR, oneOf, evalAll, partsA, optA, Nat.reduceLT, Nat.reduceLeDiff, Nat.reduceEqDiff, Nat.reduceAdd, ↓reduceIte, hn, h0, hd2]
  refine wstep_storeAll szTab (by decide) ht2 rfl rfl (vs := #[cptr s.next]) rfl rfl ?_
  intro s3 ht3 hnx3 hot3
  have ht3 : Thing s3 s1.next [cptr s.next] := ht3
  have hst3 : Stay s1.next s1 s3 := hst2.trans ⟨by omega, fun j hj => hot3 j (by omega)⟩
  have hT : Tabs [] s3 [(s.next, l)] := by
    have : Tabs [] s ([] : List (Nat × List UInt8)) := ⟨List.nodup_nil, fun e he => by cases he⟩
    exact ((this.add hst1 (Nat.le_refl _) hb1 hb2 (fun j hj => ⟨hx.homeLt j (hb3 j hj), by simp⟩)).keeps hst3)
  have hst : Stay s.next s s3 := hst1.trans (hst3.weaken (by omega))
  have l3 := ht3.load (P := Try.prog) agCurP (off := 0) (c := 2) rfl (by simp)
  simp (config := { maxSteps := 1000000, implicitDefEqProofs := false }) (disch := omega) only [allW, allR, oneOf, evalAll, partsA, optA, Nat.reduceLT, Nat.reduceLeDiff, Nat.reduceEqDiff, Nat.reduceAdd, ↓reduceIte, hn, h0, sffld0, l3]
  refine (len_tab hT (List.mem_cons_self ..)).mono ?_
  rintro _ s4 ⟨rfl, hs4⟩
  subst hs4
  by_cases c1 : l.length < 12
  · have d1 : (l.length : Int) < 12 := by omega
    have hr : tabsX l = .error 2 := by unfold tabsX; rw [if_pos c1]
    simp (config := { maxSteps := 1000000, implicitDefEqProofs := false }) (disch := omega) only [allW, allR, wfn_ret, wfn_normal, oneOf, evalAll, partsA, optA, Nat.reduceLT, Nat.reduceLeDiff, Nat.reduceEqDiff, Nat.reduceAdd, ↓reduceIte, hn, h0, eq_true d1, hr, TabsX, Try.results18]
    exact ⟨rfl, hst⟩
  have d1 : ¬ (l.length : Int) < 12 := by omega
  have hx3 := hx.keeps hst
  have q4 := (hx3.cutB (lo := 0) (hi := 4) (by omega) (by omega)).str (P := Try.prog) (dst := 9) Try.underlying27 Try.underlying9 Try.underlying5
  rw [List.drop_zero, show 4 - 0 = 4 from rfl] at q4
  have hsl := hx3.sliceHigh (P := Try.prog) (k := .i64) (y := 4) Try.underlying27 szU8 (by omega) (by omega)
  rw [show (4 : Int).toNat = 4 from rfl] at hsl
  have hbad : ∀ f : AFr, f.n = 101 → l.take 4 ≠ [0, 1, 0, 0] ∧ l.take 4 ≠ [116, 114, 117, 101] → f.get 2 = .map none → f.get 3 = .int .i64 4 → wfn Try.prog (Try.f18).results.toList (fun v s' => TabsX s.next v s' (tabsX l) ∧ Stay s.next s s') .ret f s4 := by
    intro f hn hk h2 h3
    have hr : tabsX l = .error 4 := by unfold tabsX; rw [if_neg c1, if_pos hk]
    simp only [allW, allR, wfn_ret, wfn_normal, oneOf, evalAll, partsA, optA, Nat.reduceLT, Nat.reduceLeDiff, Nat.reduceEqDiff, Nat.reduceAdd, ↓reduceIte, hn, h2, h3, hr, TabsX, Try.results18]
    exact ⟨rfl, hst⟩
  have hsplit : (l.take 4 = [116, 114, 117, 101]) ∨ (l.take 4 ≠ [116, 114, 117, 101] ∧ l.take 4 = [0, 1, 0, 0]) ∨ (l.take 4 ≠ [0, 1, 0, 0] ∧ l.take 4 ≠ [116, 114, 117, 101]) := by
    by_cases k1 : l.take 4 = [116, 114, 117, 101] <;> by_cases k2 : l.take 4 = [0, 1, 0, 0] <;> simp [k1, k2]
  rcases hsplit with k1 | ⟨k1, k2⟩ | ⟨k2, k1⟩
  rotate_left 2
  · simp (config := { maxSteps := 1000000, implicitDefEqProofs := false }) (disch := omega) only [allW, allR, oneOf, evalAll, partsA, optA, Nat.reduceLT, Nat.reduceLeDiff, Nat.reduceEqDiff, Nat.reduceAdd, ↓reduceIte, undef, hn, h0, eq_false d1, hsl, q4, neqTrue, neqOne, decide_eq_true k1, decide_eq_true k2]
    exact hbad _ (by simp only [get_put, n_put, ↓reduceIte, Nat.reduceEqDiff, hn]) ⟨k2, k1⟩ (by simp only [get_put, n_put, ↓reduceIte, Nat.reduceEqDiff]) (by simp only [get_put, n_put, ↓reduceIte, Nat.reduceEqDiff])
  all_goals
    have hkind : ¬ (l.take 4 ≠ [0, 1, 0, 0] ∧ l.take 4 ≠ [116, 114, 117, 101]) := by simp [k1, *]
    clear hbad
  · have k1' : ¬ l.take 4 ≠ [116, 114, 117, 101] := fun h => h k1
    simp (config := { maxSteps := 1000000, implicitDefEqProofs := false }) (disch := omega) only [allW, allR, oneOf, evalAll, partsA, optA, Nat.reduceLT, Nat.reduceLeDiff, Nat.reduceEqDiff, Nat.reduceAdd, ↓reduceIte, undef, hn, h0, eq_false d1, hsl, q4, neqTrue, neqOne, decide_eq_false k1', sffld0, l3]
    have hq : half l 4 < 65536 := half_lt l 4
    have l3' := Thing.loadAll (P := Try.prog) (cs := [cptr s.next]) agTab szTab ht3 (c := 2) rfl
    have l3'' : loadA Try.prog s4 55 (.pointer (some ⟨s1.next, 0, some 2⟩)) = some (tabV s.next) := l3'
    simp (config := { maxSteps := 1000000, implicitDefEqProofs := false }) (disch := omega) only [allW, allR, oneOf, evalAll, partsA, optA, Nat.reduceLT, Nat.reduceLeDiff, Nat.reduceEqDiff, Nat.reduceAdd, ↓reduceIte, undef, hn, h0, l3'']
    refine (half_tab hT (List.mem_cons_self ..) 4 (by omega)).mono ?_
    rintro _ s5 ⟨rfl, hT5, hto5⟩
    have hm : numAt l 4 2 = (half l 4 : Nat) := numAt_half (n := 4) (by omega)
    rw [hm]
    have hid : idsT [(s.next, l)] = [s.next] := rfl
    have ht5 := ht3.cto hto5 (by rw [hid]; simp; omega)
    have l5 := ht5.load (P := Try.prog) agCurP (off := 0) (c := 2) rfl (by simp)
    have hst5 : Stay s.next s s5 := hst.trans (hto5.keeps (by rw [hid]; simp) hst.next)
    simp (config := { maxSteps := 1000000, implicitDefEqProofs := false }) (disch := omega) only [allW, allR, oneOf, evalAll, partsA, optA, Nat.reduceLT, Nat.reduceLeDiff, Nat.reduceEqDiff, Nat.reduceAdd, ↓reduceIte, undef, hn, h0, sffld0, l5, wrapI]
    refine (len_tab hT5 (List.mem_cons_self ..)).mono ?_
    rintro _ s6 ⟨rfl, hs6⟩
    subst hs6
    by_cases c2 : l.length < 12 + 16 * half l 4
    · have d2 : (l.length : Int) < 12 + 16 * ((half l 4 : Nat) : Int) := by omega
      have hr : tabsX l = .error 2 := by unfold tabsX; rw [if_neg c1, if_neg hkind, if_pos c2]
      simp (config := { maxSteps := 1000000, implicitDefEqProofs := false }) (disch := omega) only [allW, allR, wfn_ret, wfn_normal, oneOf, evalAll, partsA, optA, Nat.reduceLT, Nat.reduceLeDiff, Nat.reduceEqDiff, Nat.reduceAdd, ↓reduceIte, hn, h0, eq_true d2, wrapI, hr, TabsX, Try.results18]
      exact ⟨rfl, hst5⟩
    have d2 : ¬ (l.length : Int) < 12 + 16 * ((half l 4 : Nat) : Int) := by omega
    obtain ⟨s7, hm7, hM7, hst7, hnx7⟩ := newMapV s6
    have hn5 := hto5.next
    have hsn1 := hst1.next
    have hn67 := hst7.next
    have htot : tabsX l = tabsF l (half l 4) 0 [] := by unfold tabsX; rw [if_neg c1, if_neg hkind, if_neg c2]
    obtain ⟨many, hmany⟩ : ∃ m, m = half l 4 := ⟨_, rfl⟩
    rw [← hmany] at htot c2 d2 hq
    obtain ⟨j4, hj4⟩ : ∃ i, i = s1.next := ⟨_, rfl⟩
    obtain ⟨r, hr7⟩ : ∃ i, i = s6.next := ⟨_, rfl⟩
    rw [← hr7] at hM7
    rw [← hj4] at ht5
    have hj4r : j4 < r := by have := ht5.lt; omega
    simp (config := { maxSteps := 1000000, implicitDefEqProofs := false }) (disch := omega) only [allW, allR, oneOf, evalAll, partsA, optA, Nat.reduceLT, Nat.reduceLeDiff, Nat.reduceEqDiff, Nat.reduceAdd, ↓reduceIte, hn, h0, eq_false d2, wrapI, hm7, ← hmany, ← hj4, ← hr7]
    refine Comes.loopAt (fun q f s' => ∃ (k : Nat) (E : List Ent), q = many - k ∧ k ≤ many ∧ tabsX l = tabsF l (many - k) k (bare E) ∧ Tabs [r] s' ((s.next, l) :: curO E) ∧ MapVs s' r (mapO E) ∧ (∀ e ∈ E, r < e.2.1) ∧ Thing s' j4 [cptr s.next] ∧ Stay s.next s s' ∧ f.n = 101 ∧ f.get 4 = .pointer (some ⟨j4, 0, some 2⟩) ∧ f.get 7 = .map (some r) ∧ f.get 44 = .int .i64 (many : Nat) ∧ f.get 45 = .int .i64 (k : Nat))
      ⟨0, [], rfl, by omega, htot, (hT5.keeps hst7).take (fun e he => by rw [List.mem_singleton.mp he]; show s.next ≤ r; omega), hM7, (fun e he => by cases he), ht5.keeps hst7, hst5.trans (hst7.weaken (by omega)), by simp only [get_put, n_put, ↓reduceIte, Nat.reduceEqDiff, hn], by simp only [get_put, n_put, ↓reduceIte, Nat.reduceEqDiff], by simp only [get_put, n_put, ↓reduceIte, Nat.reduceEqDiff], by simp only [get_put, n_put, ↓reduceIte, Nat.reduceEqDiff], by simp only [get_put, n_put, ↓reduceIte, Nat.reduceEqDiff]; rfl⟩ ?_
    clear hn h0 f hM7 ht5 hT5 hst7 hst5 htot
    rintro q f s8 ⟨k, E, rfl, hk, htot, hT8, hM8, hup, ht8, hst8, hn, h4, h7, h44, h45⟩
    by_cases c3 : k < many
    rotate_left
    · obtain rfl : k = many := by omega
      have d3 : ¬ (k : Int) < (k : Int) := by omega
      rw [Nat.sub_self, tabsF] at htot
      simp (config := { maxSteps := 1000000, implicitDefEqProofs := false }) (disch := omega) only [allW, allR, wfn_ret, wfn_normal, oneOf, evalAll, partsA, optA, Nat.reduceLT, Nat.reduceLeDiff, Nat.reduceEqDiff, Nat.reduceAdd, ↓reduceIte, hn, h4, h7, h44, h45, eq_false d3, htot, TabsX, Try.results18]
      exact ⟨⟨r, E, rfl, rfl, ⟨hM8, hT8.tail.drop, hup⟩, by omega⟩, hst8⟩
    have d3 : (k : Int) < (many : Int) := by omega
    have hj4n : j4 ∉ idsT ((s.next, l) :: curO E) := by
      intro h
      rcases List.mem_cons.mp h with h | h
      · omega
      · obtain ⟨e, he, h⟩ := List.mem_map.mp h
        obtain ⟨e', he', rfl⟩ := List.mem_map.mp he
        have := hup e' he'
        omega
    have hrn : r ∉ idsT ((s.next, l) :: curO E) := by
      intro h
      rcases List.mem_cons.mp h with h | h
      · omega
      · obtain ⟨e, he, h⟩ := List.mem_map.mp h
        obtain ⟨e', he', rfl⟩ := List.mem_map.mp he
        have := hup e' he'
        omega
    have hge : ∀ i ∈ idsT ((s.next, l) :: curO E), s.next ≤ i := by
      intro i h
      rcases List.mem_cons.mp h with h | h
      · omega
      · obtain ⟨e, he, h⟩ := List.mem_map.mp h
        obtain ⟨e', he', rfl⟩ := List.mem_map.mp he
        have := hup e' he'
        omega
    have la8 : loadA Try.prog s8 55 (.pointer (some ⟨j4, 0, some 2⟩)) = some (tabV s.next) := Thing.loadAll (P := Try.prog) (cs := [cptr s.next]) agTab szTab ht8 (c := 2) rfl
    have n8 : numAt l (12 + 16 * (k : Int) + 8) 4 = ((word l (12 + 16 * k + 8) : Nat) : Int) := by
      rw [show (12 + 16 * (k : Int) + 8) = ((12 + 16 * k + 8 : Nat) : Int) by omega]; exact numAt_word (by omega)
    have n12 : numAt l (12 + 16 * (k : Int) + 12) 4 = ((word l (12 + 16 * k + 12) : Nat) : Int) := by
      rw [show (12 + 16 * (k : Int) + 12) = ((12 + 16 * k + 12 : Nat) : Int) by omega]; exact numAt_word (by omega)
    have hw8 := word_lt l (12 + 16 * k + 8)
    have hw12 := word_lt l (12 + 16 * k + 12)
    simp (config := { maxSteps := 1000000, implicitDefEqProofs := false }) (disch := omega) only [allW, allR, oneOf, evalAll, partsA, optA, Nat.reduceLT, Nat.reduceLeDiff, Nat.reduceEqDiff, Nat.reduceAdd, ↓reduceIte, hn, h4, h7, h44, h45, eq_true d3, wrapI]
    refine LB.Drawn.looseK (fun j => decide (j = j4)) (fun j h => by have := of_decide_eq_true h; have := ht8.lt; omega) 1 0 (by kernel_rfl) (by kernel_rfl) ?_
    have hlw : LA.lowV (fun j => decide (j = j4)) (some (.pointer (some ⟨j4, 0, some 2⟩))) = true := LA.lowV_ptr _ (by simp)
    have hvt : valEq (tabV s.next) (tabV s.next) = true := by simp [valEq, valEqL, valEq1]
    rw [spare_zero]
    simp (config := { maxSteps := 1000000, implicitDefEqProofs := false }) (disch := omega) only [allW, allR, allL, allB, Nat.sub_self, Nat.add_one_sub_one, Nat.reduceSub, oneOf, evalAll, partsA, optA, Nat.reduceLT, Nat.reduceLeDiff, Nat.reduceEqDiff, Nat.reduceAdd, ↓reduceIte, hn, h4, h7, h44, h45, la8, hlw, hvt, valEq_int, wrapI]
    refine (full_tab hT8 (List.mem_cons_self ..) _ (by omega)).mono ?_
    rintro _ s9 ⟨rfl, hT9, hto9⟩
    refine ⟨fun _ => ⟨hto9.next, fun j hj => by have := of_decide_eq_true hj; subst this; exact hto9.get _ ht8.lt hj4n⟩, ?_⟩
    have ht9 := ht8.cto hto9 hj4n
    have la9 : loadA Try.prog s9 55 (.pointer (some ⟨j4, 0, some 2⟩)) = some (tabV s.next) := Thing.loadAll (P := Try.prog) (cs := [cptr s.next]) agTab szTab ht9 (c := 2) rfl
    simp (config := { maxSteps := 1000000, implicitDefEqProofs := false }) (disch := omega) only [allW, allR, allL, allB, Nat.sub_self, Nat.add_one_sub_one, Nat.reduceSub, oneOf, evalAll, partsA, optA, Nat.reduceLT, Nat.reduceLeDiff, Nat.reduceEqDiff, Nat.reduceAdd, ↓reduceIte, hn, h4, h7, h44, h45, la9, hlw, hvt, valEq_int, wrapI]
    refine (full_tab hT9 (List.mem_cons_self ..) _ (by omega)).mono ?_
    rintro _ s10 ⟨rfl, hT10, hto10⟩
    refine ⟨fun h => by simp at h, ?_⟩
    have hto : CTo (idsT ((s.next, l) :: curO E)) s8 s10 := hto9.trans hto10
    have ht10 := ht8.cto hto hj4n
    have l10 := ht10.load (P := Try.prog) agCurP (off := 0) (c := 2) rfl (by simp)
    simp (config := { maxSteps := 1000000, implicitDefEqProofs := false }) (disch := omega) only [allW, allR, allL, allB, Nat.sub_self, Nat.add_one_sub_one, Nat.reduceSub, oneOf, evalAll, partsA, optA, Nat.reduceLT, Nat.reduceLeDiff, Nat.reduceEqDiff, Nat.reduceAdd, ↓reduceIte, hn, h4, h7, h44, h45, n8, n12, valEq_int, sffld0, l10]
    refine (seek_tab hT10 (List.mem_cons_self ..) _).mono ?_
    rintro _ s11 ⟨rfl, hT11, hto11, hat11⟩
    have hat := hat11 (by omega)
    have ht11 := ht10.cto hto11 hj4n
    have l11 := ht11.load (P := Try.prog) agCurP (off := 0) (c := 2) rfl (by simp)
    simp (config := { maxSteps := 1000000, implicitDefEqProofs := false }) (disch := omega) only [allW, allR, oneOf, evalAll, partsA, optA, Nat.reduceLT, Nat.reduceLeDiff, Nat.reduceEqDiff, Nat.reduceAdd, ↓reduceIte, hn, h4, h7, h44, h45, sffld0, l11]
    refine (take_tab hT11 (List.mem_cons_self ..) hat 4 (by omega)).mono ?_
    rintro _ s12 ⟨B, rfl, hB, hBF, hT12, hto12⟩
    have hnm : takeIs l (12 + 16 * (k : Int)).toNat 4 = (l.drop (12 + 16 * k)).take 4 := by
      rw [show (12 + 16 * (k : Int)).toNat = 12 + 16 * k by omega]; exact takeIs_at (k := 4) (by omega)
    rw [hnm] at hB
    obtain ⟨nm, hnmd⟩ : ∃ nm, nm = (l.drop (12 + 16 * k)).take 4 := ⟨_, rfl⟩
    rw [← hnmd] at hB
    have hto12' := (hto.trans hto11).trans hto12
    have hM12 := hM8.cto hto12' hrn
    have hlk := hM12.lookup (P := Try.prog) Try.underlying49 Try.underlying9 zTab plTab nm
    have qB := hB.sees.str (P := Try.prog) (dst := 9) Try.underlying27 Try.underlying9 Try.underlying5
    rw [show many - k = (many - (k + 1)) + 1 by omega, tabsF, ← hnmd] at htot
    have hfail : ∀ (f : AFr) (s' : ASt), f.n = 101 → (l.length < word l (12 + 16 * k + 8) ∨ l.length - word l (12 + 16 * k + 8) < word l (12 + 16 * k + 12) ∨ (lookT (bare E) nm).isSome) → Stay s.next s s' → f.get 2 = .map none → f.get 3 = .int .i64 4 → wfn Try.prog (Try.f18).results.toList (fun v s' => TabsX s.next v s' (tabsX l) ∧ Stay s.next s s') .ret f s' := by
      intro f s' hn hc hst h2 h3
      rw [if_pos hc] at htot
      simp only [allW, allR, wfn_ret, wfn_normal, oneOf, evalAll, partsA, optA, Nat.reduceLT, Nat.reduceLeDiff, Nat.reduceEqDiff, Nat.reduceAdd, ↓reduceIte, hn, h2, h3, htot, TabsX, Try.results18]
      exact ⟨rfl, hst⟩
    have hst12 : Stay s.next s s12 := hst8.trans (hto12'.keeps hge hst8.next)
    have ht12 := ht8.cto hto12' hj4n
    have hn12 := hto12'.next
    have hsn12 := hst12.next
    have hd2' : [Value.pointer none].length + 1 = 2 := rfl
    cases hlo : lookT (bare E) nm with
    | some y =>
      obtain ⟨iy, hiy, _⟩ := look_at hlo
      rw [hiy, Option.getD_some, Option.isSome_some] at hlk
      simp (config := { maxSteps := 1000000, implicitDefEqProofs := false }) (disch := omega) only [allW, allR, oneOf, evalAll, partsA, optA, Nat.reduceLT, Nat.reduceLeDiff, Nat.reduceEqDiff, Nat.reduceAdd, ↓reduceIte, hn, h4, h7, h44, h45, extT0, extT1, qB, hlk, szTab, zTab, plTab, zTabCells]
      refine wstep_newPtr ?_
      intro s13 ht13 hst13 hnx13
      simp (config := { maxSteps := 1000000, implicitDefEqProofs := false }) (disch := omega) only [allW, allR, oneOf, evalAll, partsA, optA, Nat.reduceLT, Nat.reduceLeDiff, Nat.reduceEqDiff, Nat.reduceAdd, ↓reduceIte, hn, h4, h7, h44, h45, extT0, extT1, hd2']
      refine wstep_storeAll szTab (by decide) ht13 rfl rfl (vs := #[cptr iy]) rfl rfl ?_
      intro s14 ht14 hnx14 hot14
      simp (config := { maxSteps := 1000000, implicitDefEqProofs := false }) (disch := omega) only [allW, allR, oneOf, evalAll, partsA, optA, Nat.reduceLT, Nat.reduceLeDiff, Nat.reduceEqDiff, Nat.reduceAdd, ↓reduceIte, undef, hn, h4, h7, h44, h45]
      exact hfail _ _ (by simp only [get_put, n_put, ↓reduceIte, Nat.reduceEqDiff, hn]) (.inr (.inr (by rw [hlo]; rfl))) (hst12.trans ((hst13.weaken (by omega)).trans ⟨by omega, fun j hj => hot14 j (by omega)⟩)) (by simp only [get_put, n_put, ↓reduceIte, Nat.reduceEqDiff]) (by simp only [get_put, n_put, ↓reduceIte, Nat.reduceEqDiff])
    | none =>
    have hsk := look_no hlo
    rw [hsk, Option.getD_none, Option.isSome_none] at hlk
    simp (config := { maxSteps := 1000000, implicitDefEqProofs := false }) (disch := omega) only [allW, allR, oneOf, evalAll, partsA, optA, Nat.reduceLT, Nat.reduceLeDiff, Nat.reduceEqDiff, Nat.reduceAdd, ↓reduceIte, hn, h4, h7, h44, h45, extT0, extT1, qB, hlk, szTab, zTab, plTab, zTabCells]
    refine wstep_newPtr ?_
    intro s13 ht13 hst13 hnx13
    simp (config := { maxSteps := 1000000, implicitDefEqProofs := false }) (disch := omega) only [allW, allR, oneOf, evalAll, partsA, optA, Nat.reduceLT, Nat.reduceLeDiff, Nat.reduceEqDiff, Nat.reduceAdd, ↓reduceIte, hn, h4, h7, h44, h45, extT0, extT1, hd2']
    refine wstep_storeAll szTab (by decide) ht13 rfl rfl (vs := #[.pointer none]) rfl rfl ?_
    intro s14 ht14 hnx14 hot14
    have hst14 : Stay s12.next s12 s14 := hst13.trans ⟨by omega, fun j hj => hot14 j (by omega)⟩
    have hT14 := hT12.keeps hst14
    have ht14 := ht12.keeps hst14
    have l14 := ht14.load (P := Try.prog) agCurP (off := 0) (c := 2) rfl (by simp)
    simp (config := { maxSteps := 1000000, implicitDefEqProofs := false }) (disch := omega) only [allW, allR, oneOf, evalAll, partsA, optA, Nat.reduceLT, Nat.reduceLeDiff, Nat.reduceEqDiff, Nat.reduceAdd, ↓reduceIte, undef, hn, h4, h7, h44, h45, sffld0, l14]
    refine (seek_tab hT14 (List.mem_cons_self ..) _).mono ?_
    rintro _ s15 ⟨rfl, hT15, hto15, hat15⟩
    have hst15 : Stay s.next s s15 := (hst12.trans (hst14.weaken (by omega))).trans (hto15.keeps hge (by have := hst14.next; omega))
    by_cases c4 : l.length < word l (12 + 16 * k + 8)
    · have d4 : ¬ ((0 : Int) ≤ ((word l (12 + 16 * k + 8) : Nat) : Int) ∧ word l (12 + 16 * k + 8) ≤ l.length) := by omega
      simp (config := { maxSteps := 1000000, implicitDefEqProofs := false }) (disch := omega) only [allW, allR, oneOf, evalAll, partsA, optA, Nat.reduceLT, Nat.reduceLeDiff, Nat.reduceEqDiff, Nat.reduceAdd, ↓reduceIte, undef, hn, h4, h7, h44, h45, decide_eq_false d4, Bool.not_false]
      exact hfail _ _ (by simp only [get_put, n_put, ↓reduceIte, Nat.reduceEqDiff, hn]) (.inl c4) hst15 (by simp only [get_put, n_put, ↓reduceIte, Nat.reduceEqDiff]) (by simp only [get_put, n_put, ↓reduceIte, Nat.reduceEqDiff])
    have d4 : ((0 : Int) ≤ ((word l (12 + 16 * k + 8) : Nat) : Int) ∧ word l (12 + 16 * k + 8) ≤ l.length) := by omega
    have hat := hat15 (by omega)
    rw [Int.toNat_natCast] at hat
    have ht15 := ht14.cto hto15 hj4n
    have l15 := ht15.load (P := Try.prog) agCurP (off := 0) (c := 2) rfl (by simp)
    simp (config := { maxSteps := 1000000, implicitDefEqProofs := false }) (disch := omega) only [allW, allR, oneOf, evalAll, partsA, optA, Nat.reduceLT, Nat.reduceLeDiff, Nat.reduceEqDiff, Nat.reduceAdd, ↓reduceIte, undef, hn, h4, h7, h44, h45, sffld0, l15, decide_eq_true d4, Bool.not_true]
    refine (take_tab hT15 (List.mem_cons_self ..) hat _ (by omega)).mono ?_
    rintro _ s16 ⟨D, rfl, hD, hDF, hT16, hto16⟩
    have hst16 : Stay s.next s s16 := hst15.trans (hto16.keeps hge hst15.next)
    by_cases c5 : l.length - word l (12 + 16 * k + 8) < word l (12 + 16 * k + 12)
    · have d5 : ¬ ((0 : Int) ≤ ((word l (12 + 16 * k + 12) : Nat) : Int) ∧ word l (12 + 16 * k + 12) ≤ l.length - word l (12 + 16 * k + 8)) := by omega
      simp (config := { maxSteps := 1000000, implicitDefEqProofs := false }) (disch := omega) only [allW, allR, oneOf, evalAll, partsA, optA, Nat.reduceLT, Nat.reduceLeDiff, Nat.reduceEqDiff, Nat.reduceAdd, ↓reduceIte, undef, hn, h4, h7, h44, h45, extT0, extT1, decide_eq_false d5, Bool.not_false]
      exact hfail _ _ (by simp only [get_put, n_put, ↓reduceIte, Nat.reduceEqDiff, hn]) (.inr (.inl c5)) hst16 (by simp only [get_put, n_put, ↓reduceIte, Nat.reduceEqDiff]) (by simp only [get_put, n_put, ↓reduceIte, Nat.reduceEqDiff])
    have d5 : ((0 : Int) ≤ ((word l (12 + 16 * k + 12) : Nat) : Int) ∧ word l (12 + 16 * k + 12) ≤ l.length - word l (12 + 16 * k + 8)) := by omega
    have hD' : takeIs l (word l (12 + 16 * k + 8)) ((word l (12 + 16 * k + 12) : Nat) : Int) = (l.drop (word l (12 + 16 * k + 8))).take (word l (12 + 16 * k + 12)) := takeIs_at (by omega)
    rw [hD'] at hD
    obtain ⟨dt, hdt⟩ : ∃ dt, dt = (l.drop (word l (12 + 16 * k + 8))).take (word l (12 + 16 * k + 12)) := ⟨_, rfl⟩
    rw [← hdt] at hD
    rw [← hdt, if_neg (by rw [hlo]; simp [c4, c5])] at htot
    have hT11lt := hT11.lt
    have hT15lt := hT15.lt
    have hnB : ∀ i, idOf B = some i → i ∉ idsT ((s.next, l) :: curO E) := fun i hi hm => by have := hBF i hi; have := hT11lt i hm; omega
    have hB16 : Own s16 1 B nm.length (ofBytes nm) := ((hB.keeps hst14).cto hto15 hnB).cto hto16 hnB
    have qB16 := hB16.sees.str (P := Try.prog) (dst := 9) Try.underlying27 Try.underlying9 Try.underlying5
    have hM16 : MapVs s16 r (mapO E) := ((hM12.keeps hst14).cto hto15 hrn).cto hto16 hrn
    have ht16 := ht15.cto hto16 hj4n
    have hrl := hM16.lt
    simp (config := { maxSteps := 1000000, implicitDefEqProofs := false }) (disch := omega) only [allW, allR, oneOf, evalAll, partsA, optA, Nat.reduceLT, Nat.reduceLeDiff, Nat.reduceEqDiff, Nat.reduceAdd, ↓reduceIte, undef, hn, h4, h7, h44, h45, extT0, extT1, decide_eq_true d5, Bool.not_true]
    refine LB.Drawn.looseK (fun j => decide (j < s16.next)) (fun j h => of_decide_eq_true h) 1 0 (by kernel_rfl) (by kernel_rfl) ?_
    rw [spare_zero]
    have hlB : LA.lowC (fun j => decide (j < s16.next)) (some B) = true := LA.lowC_of (LA.lowV_own hB16 (fun i hi => decide_eq_true (hB16.idlt i hi)))
    simp (config := { maxSteps := 1000000, implicitDefEqProofs := false }) (disch := omega) only [allW, allR, allL, allB, Nat.sub_self, Nat.add_one_sub_one, Nat.reduceSub, oneOf, evalAll, partsA, optA, Nat.reduceLT, Nat.reduceLeDiff, Nat.reduceEqDiff, Nat.reduceAdd, ↓reduceIte, hn, h4, h7, h44, h45, qB16, hlB, valEq_mapV, hB16.self, hD.self, valEq_string]
    refine (new_b (lib := libN) rfl s16 D dt hD.sees).mono ?_
    rintro _ s17 ⟨rfl, ⟨b17, hb17, hb17s, hb17h⟩, hst17, hnx17⟩
    refine ⟨fun _ => LA.Stay.toA (fun i hi => of_decide_eq_true hi) hst17, ?_⟩
    obtain ⟨s18, hup18, hM18, hnx18, hot18⟩ := (hM16.keeps hst17).update (P := Try.prog) Try.underlying49 Try.underlying9 nm (tabV s16.next) hsk
    have hvt' : valEq (tabV s16.next) (tabV s16.next) = true := by simp [valEq, valEqL, valEq1]
    simp (config := { maxSteps := 1000000, implicitDefEqProofs := false }) (disch := omega) only [allW, allR, allL, allB, Nat.sub_self, Nat.add_one_sub_one, Nat.reduceSub, oneOf, evalAll, partsA, optA, Nat.reduceLT, Nat.reduceLeDiff, Nat.reduceEqDiff, Nat.reduceAdd, ↓reduceIte, hn, h4, h7, h44, h45, tabBuild, hvt', hup18]
    rw [LB.sstep_val]
    refine ⟨fun h => by simp at h, ?_⟩
    have hjl := ht16.lt
    have hnn : ∀ j, home b17 = some j → j < s16.next ∧ j ∉ [r] ++ idsT ((s.next, l) :: curO E) := by
      intro j hj
      have h1 := home_id (hb17h j hj)
      have h2 := hD.idlt j h1
      have h3 := hDF j h1
      refine ⟨h2, fun hm => ?_⟩
      rcases List.mem_append.mp hm with q | q
      · have := List.mem_singleton.mp q; have := hM12.lt; have := hst14.next; have := hto15.next; omega
      · have := hT15lt j q; omega
    have hT17 := hT16.add hst17 (Nat.le_refl _) hb17 hb17s hnn
    have hrn' : r ∉ idsT ((s.next, l) :: curO E ++ [(s16.next, dt)]) := by
      intro h
      have e : idsT ((s.next, l) :: curO E ++ [(s16.next, dt)]) = idsT ((s.next, l) :: curO E) ++ [s16.next] := by simp [idsT]
      rw [e] at h
      rcases List.mem_append.mp h with h | h
      · exact hrn h
      · have := List.mem_singleton.mp h; omega
    have hT18 := hT17.ctoX (CTo.ofPut (I := [r]) hnx18 hot18 (List.mem_singleton.mpr rfl)) (fun j hj => ⟨hj, by rw [List.mem_singleton.mp hj]; exact hrn'⟩)
    simp (config := { maxSteps := 1000000, implicitDefEqProofs := false }) (disch := omega) only [allW, allR, allL, allB, Nat.sub_self, Nat.add_one_sub_one, Nat.reduceSub, oneOf, evalAll, partsA, optA, Nat.reduceLT, Nat.reduceLeDiff, Nat.reduceEqDiff, Nat.reduceAdd, ↓reduceIte, hn, h4, h7, h44, h45, wrapI]
    have e1 : bare E ++ [(nm, dt)] = bare (E ++ [(nm, s16.next, dt)]) := by simp [bare]
    have e2 : mapO E ++ [(nm, tabV s16.next)] = mapO (E ++ [(nm, s16.next, dt)]) := by simp [mapO]
    have e3 : (s.next, l) :: curO E ++ [(s16.next, dt)] = (s.next, l) :: curO (E ++ [(nm, s16.next, dt)]) := by simp [curO]
    rw [e1] at htot
    rw [e2] at hM18
    rw [e3] at hT18
    have hst18 : Stay s.next s s18 := (hst16.trans (hst17.weaken hst16.next)).trans ⟨by omega, fun j hj => hot18 j (by omega)⟩
    refine wround_next (many - (k + 1)) (by omega) ⟨k + 1, E ++ [(nm, s16.next, dt)], rfl, by omega, htot, hT18, hM18, ?_, (ht16.keeps hst17).ofPut hnx18 hot18 (by omega), hst18, by simp only [get_put, n_put, ↓reduceIte, Nat.reduceEqDiff, hn], by simp only [get_put, n_put, ↓reduceIte, Nat.reduceEqDiff, h4], by simp only [get_put, n_put, ↓reduceIte, Nat.reduceEqDiff, h7], by simp only [get_put, n_put, ↓reduceIte, Nat.reduceEqDiff, h44], by simp only [get_put, n_put, ↓reduceIte, Nat.reduceEqDiff]; rfl⟩
    intro e he
    rcases List.mem_append.mp he with h | h
    · exact hup e h
    · rw [List.mem_singleton.mp h]; exact hrl
  · simp (config := { maxSteps := 1000000, implicitDefEqProofs := false }) (disch := omega) only [allW, allR, oneOf, evalAll, partsA, optA, Nat.reduceLT, Nat.reduceLeDiff, Nat.reduceEqDiff, Nat.reduceAdd, ↓reduceIte, undef, hn, h0, eq_false d1, hsl, q4, neqTrue, neqOne, decide_eq_true k1, decide_eq_false (not_not_intro k2), sffld0, l3]
    have hq : half l 4 < 65536 := half_lt l 4
    have l3' := Thing.loadAll (P := Try.prog) (cs := [cptr s.next]) agTab szTab ht3 (c := 2) rfl
    have l3'' : loadA Try.prog s4 55 (.pointer (some ⟨s1.next, 0, some 2⟩)) = some (tabV s.next) := l3'
    simp (config := { maxSteps := 1000000, implicitDefEqProofs := false }) (disch := omega) only [allW, allR, oneOf, evalAll, partsA, optA, Nat.reduceLT, Nat.reduceLeDiff, Nat.reduceEqDiff, Nat.reduceAdd, ↓reduceIte, undef, hn, h0, l3'']
    refine (half_tab hT (List.mem_cons_self ..) 4 (by omega)).mono ?_
    rintro _ s5 ⟨rfl, hT5, hto5⟩
    have hm : numAt l 4 2 = (half l 4 : Nat) := numAt_half (n := 4) (by omega)
    rw [hm]
    have hid : idsT [(s.next, l)] = [s.next] := rfl
    have ht5 := ht3.cto hto5 (by rw [hid]; simp; omega)
    have l5 := ht5.load (P := Try.prog) agCurP (off := 0) (c := 2) rfl (by simp)
    have hst5 : Stay s.next s s5 := hst.trans (hto5.keeps (by rw [hid]; simp) hst.next)
    simp (config := { maxSteps := 1000000, implicitDefEqProofs := false }) (disch := omega) only [allW, allR, oneOf, evalAll, partsA, optA, Nat.reduceLT, Nat.reduceLeDiff, Nat.reduceEqDiff, Nat.reduceAdd, ↓reduceIte, undef, hn, h0, sffld0, l5, wrapI]
    refine (len_tab hT5 (List.mem_cons_self ..)).mono ?_
    rintro _ s6 ⟨rfl, hs6⟩
    subst hs6
    by_cases c2 : l.length < 12 + 16 * half l 4
    · have d2 : (l.length : Int) < 12 + 16 * ((half l 4 : Nat) : Int) := by omega
      have hr : tabsX l = .error 2 := by unfold tabsX; rw [if_neg c1, if_neg hkind, if_pos c2]
      simp (config := { maxSteps := 1000000, implicitDefEqProofs := false }) (disch := omega) only [allW, allR, wfn_ret, wfn_normal, oneOf, evalAll, partsA, optA, Nat.reduceLT, Nat.reduceLeDiff, Nat.reduceEqDiff, Nat.reduceAdd, ↓reduceIte, hn, h0, eq_true d2, wrapI, hr, TabsX, Try.results18]
      exact ⟨rfl, hst5⟩
    have d2 : ¬ (l.length : Int) < 12 + 16 * ((half l 4 : Nat) : Int) := by omega
    obtain ⟨s7, hm7, hM7, hst7, hnx7⟩ := newMapV s6
    have hn5 := hto5.next
    have hsn1 := hst1.next
    have hn67 := hst7.next
    have htot : tabsX l = tabsF l (half l 4) 0 [] := by unfold tabsX; rw [if_neg c1, if_neg hkind, if_neg c2]
    obtain ⟨many, hmany⟩ : ∃ m, m = half l 4 := ⟨_, rfl⟩
    rw [← hmany] at htot c2 d2 hq
    obtain ⟨j4, hj4⟩ : ∃ i, i = s1.next := ⟨_, rfl⟩
    obtain ⟨r, hr7⟩ : ∃ i, i = s6.next := ⟨_, rfl⟩
    rw [← hr7] at hM7
    rw [← hj4] at ht5
    have hj4r : j4 < r := by have := ht5.lt; omega
    simp (config := { maxSteps := 1000000, implicitDefEqProofs := false }) (disch := omega) only [allW, allR, oneOf, evalAll, partsA, optA, Nat.reduceLT, Nat.reduceLeDiff, Nat.reduceEqDiff, Nat.reduceAdd, ↓reduceIte, hn, h0, eq_false d2, wrapI, hm7, ← hmany, ← hj4, ← hr7]
    refine Comes.loopAt (fun q f s' => ∃ (k : Nat) (E : List Ent), q = many - k ∧ k ≤ many ∧ tabsX l = tabsF l (many - k) k (bare E) ∧ Tabs [r] s' ((s.next, l) :: curO E) ∧ MapVs s' r (mapO E) ∧ (∀ e ∈ E, r < e.2.1) ∧ Thing s' j4 [cptr s.next] ∧ Stay s.next s s' ∧ f.n = 101 ∧ f.get 4 = .pointer (some ⟨j4, 0, some 2⟩) ∧ f.get 7 = .map (some r) ∧ f.get 44 = .int .i64 (many : Nat) ∧ f.get 45 = .int .i64 (k : Nat))
      ⟨0, [], rfl, by omega, htot, (hT5.keeps hst7).take (fun e he => by rw [List.mem_singleton.mp he]; show s.next ≤ r; omega), hM7, (fun e he => by cases he), ht5.keeps hst7, hst5.trans (hst7.weaken (by omega)), by simp only [get_put, n_put, ↓reduceIte, Nat.reduceEqDiff, hn], by simp only [get_put, n_put, ↓reduceIte, Nat.reduceEqDiff], by simp only [get_put, n_put, ↓reduceIte, Nat.reduceEqDiff], by simp only [get_put, n_put, ↓reduceIte, Nat.reduceEqDiff], by simp only [get_put, n_put, ↓reduceIte, Nat.reduceEqDiff]; rfl⟩ ?_
    clear hn h0 f hM7 ht5 hT5 hst7 hst5 htot
    rintro q f s8 ⟨k, E, rfl, hk, htot, hT8, hM8, hup, ht8, hst8, hn, h4, h7, h44, h45⟩
    by_cases c3 : k < many
    rotate_left
    · obtain rfl : k = many := by omega
      have d3 : ¬ (k : Int) < (k : Int) := by omega
      rw [Nat.sub_self, tabsF] at htot
      simp (config := { maxSteps := 1000000, implicitDefEqProofs := false }) (disch := omega) only [allW, allR, wfn_ret, wfn_normal, oneOf, evalAll, partsA, optA, Nat.reduceLT, Nat.reduceLeDiff, Nat.reduceEqDiff, Nat.reduceAdd, ↓reduceIte, hn, h4, h7, h44, h45, eq_false d3, htot, TabsX, Try.results18]
      exact ⟨⟨r, E, rfl, rfl, ⟨hM8, hT8.tail.drop, hup⟩, by omega⟩, hst8⟩
    have d3 : (k : Int) < (many : Int) := by omega
    have hj4n : j4 ∉ idsT ((s.next, l) :: curO E) := by
      intro h
      rcases List.mem_cons.mp h with h | h
      · omega
      · obtain ⟨e, he, h⟩ := List.mem_map.mp h
        obtain ⟨e', he', rfl⟩ := List.mem_map.mp he
        have := hup e' he'
        omega
    have hrn : r ∉ idsT ((s.next, l) :: curO E) := by
      intro h
      rcases List.mem_cons.mp h with h | h
      · omega
      · obtain ⟨e, he, h⟩ := List.mem_map.mp h
        obtain ⟨e', he', rfl⟩ := List.mem_map.mp he
        have := hup e' he'
        omega
    have hge : ∀ i ∈ idsT ((s.next, l) :: curO E), s.next ≤ i := by
      intro i h
      rcases List.mem_cons.mp h with h | h
      · omega
      · obtain ⟨e, he, h⟩ := List.mem_map.mp h
        obtain ⟨e', he', rfl⟩ := List.mem_map.mp he
        have := hup e' he'
        omega
    have la8 : loadA Try.prog s8 55 (.pointer (some ⟨j4, 0, some 2⟩)) = some (tabV s.next) := Thing.loadAll (P := Try.prog) (cs := [cptr s.next]) agTab szTab ht8 (c := 2) rfl
    have n8 : numAt l (12 + 16 * (k : Int) + 8) 4 = ((word l (12 + 16 * k + 8) : Nat) : Int) := by
      rw [show (12 + 16 * (k : Int) + 8) = ((12 + 16 * k + 8 : Nat) : Int) by omega]; exact numAt_word (by omega)
    have n12 : numAt l (12 + 16 * (k : Int) + 12) 4 = ((word l (12 + 16 * k + 12) : Nat) : Int) := by
      rw [show (12 + 16 * (k : Int) + 12) = ((12 + 16 * k + 12 : Nat) : Int) by omega]; exact numAt_word (by omega)
    have hw8 := word_lt l (12 + 16 * k + 8)
    have hw12 := word_lt l (12 + 16 * k + 12)
    simp (config := { maxSteps := 1000000, implicitDefEqProofs := false }) (disch := omega) only [allW, allR, oneOf, evalAll, partsA, optA, Nat.reduceLT, Nat.reduceLeDiff, Nat.reduceEqDiff, Nat.reduceAdd, ↓reduceIte, hn, h4, h7, h44, h45, eq_true d3, wrapI]
    refine LB.Drawn.looseK (fun j => decide (j = j4)) (fun j h => by have := of_decide_eq_true h; have := ht8.lt; omega) 1 0 (by kernel_rfl) (by kernel_rfl) ?_
    have hlw : LA.lowV (fun j => decide (j = j4)) (some (.pointer (some ⟨j4, 0, some 2⟩))) = true := LA.lowV_ptr _ (by simp)
    have hvt : valEq (tabV s.next) (tabV s.next) = true := by simp [valEq, valEqL, valEq1]
    rw [spare_zero]
    simp (config := { maxSteps := 1000000, implicitDefEqProofs := false }) (disch := omega) only [allW, allR, allL, allB, Nat.sub_self, Nat.add_one_sub_one, Nat.reduceSub, oneOf, evalAll, partsA, optA, Nat.reduceLT, Nat.reduceLeDiff, Nat.reduceEqDiff, Nat.reduceAdd, ↓reduceIte, hn, h4, h7, h44, h45, la8, hlw, hvt, valEq_int, wrapI]
    refine (full_tab hT8 (List.mem_cons_self ..) _ (by omega)).mono ?_
    rintro _ s9 ⟨rfl, hT9, hto9⟩
    refine ⟨fun _ => ⟨hto9.next, fun j hj => by have := of_decide_eq_true hj; subst this; exact hto9.get _ ht8.lt hj4n⟩, ?_⟩
    have ht9 := ht8.cto hto9 hj4n
    have la9 : loadA Try.prog s9 55 (.pointer (some ⟨j4, 0, some 2⟩)) = some (tabV s.next) := Thing.loadAll (P := Try.prog) (cs := [cptr s.next]) agTab szTab ht9 (c := 2) rfl
    simp (config := { maxSteps := 1000000, implicitDefEqProofs := false }) (disch := omega) only [allW, allR, allL, allB, Nat.sub_self, Nat.add_one_sub_one, Nat.reduceSub, oneOf, evalAll, partsA, optA, Nat.reduceLT, Nat.reduceLeDiff, Nat.reduceEqDiff, Nat.reduceAdd, ↓reduceIte, hn, h4, h7, h44, h45, la9, hlw, hvt, valEq_int, wrapI]
    refine (full_tab hT9 (List.mem_cons_self ..) _ (by omega)).mono ?_
    rintro _ s10 ⟨rfl, hT10, hto10⟩
    refine ⟨fun h => by simp at h, ?_⟩
    have hto : CTo (idsT ((s.next, l) :: curO E)) s8 s10 := hto9.trans hto10
    have ht10 := ht8.cto hto hj4n
    have l10 := ht10.load (P := Try.prog) agCurP (off := 0) (c := 2) rfl (by simp)
    simp (config := { maxSteps := 1000000, implicitDefEqProofs := false }) (disch := omega) only [allW, allR, allL, allB, Nat.sub_self, Nat.add_one_sub_one, Nat.reduceSub, oneOf, evalAll, partsA, optA, Nat.reduceLT, Nat.reduceLeDiff, Nat.reduceEqDiff, Nat.reduceAdd, ↓reduceIte, hn, h4, h7, h44, h45, n8, n12, valEq_int, sffld0, l10]
    refine (seek_tab hT10 (List.mem_cons_self ..) _).mono ?_
    rintro _ s11 ⟨rfl, hT11, hto11, hat11⟩
    have hat := hat11 (by omega)
    have ht11 := ht10.cto hto11 hj4n
    have l11 := ht11.load (P := Try.prog) agCurP (off := 0) (c := 2) rfl (by simp)
    simp (config := { maxSteps := 1000000, implicitDefEqProofs := false }) (disch := omega) only [allW, allR, oneOf, evalAll, partsA, optA, Nat.reduceLT, Nat.reduceLeDiff, Nat.reduceEqDiff, Nat.reduceAdd, ↓reduceIte, hn, h4, h7, h44, h45, sffld0, l11]
    refine (take_tab hT11 (List.mem_cons_self ..) hat 4 (by omega)).mono ?_
    rintro _ s12 ⟨B, rfl, hB, hBF, hT12, hto12⟩
    have hnm : takeIs l (12 + 16 * (k : Int)).toNat 4 = (l.drop (12 + 16 * k)).take 4 := by
      rw [show (12 + 16 * (k : Int)).toNat = 12 + 16 * k by omega]; exact takeIs_at (k := 4) (by omega)
    rw [hnm] at hB
    obtain ⟨nm, hnmd⟩ : ∃ nm, nm = (l.drop (12 + 16 * k)).take 4 := ⟨_, rfl⟩
    rw [← hnmd] at hB
    have hto12' := (hto.trans hto11).trans hto12
    have hM12 := hM8.cto hto12' hrn
    have hlk := hM12.lookup (P := Try.prog) Try.underlying49 Try.underlying9 zTab plTab nm
    have qB := hB.sees.str (P := Try.prog) (dst := 9) Try.underlying27 Try.underlying9 Try.underlying5
    rw [show many - k = (many - (k + 1)) + 1 by omega, tabsF, ← hnmd] at htot
    have hfail : ∀ (f : AFr) (s' : ASt), f.n = 101 → (l.length < word l (12 + 16 * k + 8) ∨ l.length - word l (12 + 16 * k + 8) < word l (12 + 16 * k + 12) ∨ (lookT (bare E) nm).isSome) → Stay s.next s s' → f.get 2 = .map none → f.get 3 = .int .i64 4 → wfn Try.prog (Try.f18).results.toList (fun v s' => TabsX s.next v s' (tabsX l) ∧ Stay s.next s s') .ret f s' := by
      intro f s' hn hc hst h2 h3
      rw [if_pos hc] at htot
      simp only [allW, allR, wfn_ret, wfn_normal, oneOf, evalAll, partsA, optA, Nat.reduceLT, Nat.reduceLeDiff, Nat.reduceEqDiff, Nat.reduceAdd, ↓reduceIte, hn, h2, h3, htot, TabsX, Try.results18]
      exact ⟨rfl, hst⟩
    have hst12 : Stay s.next s s12 := hst8.trans (hto12'.keeps hge hst8.next)
    have ht12 := ht8.cto hto12' hj4n
    have hn12 := hto12'.next
    have hsn12 := hst12.next
    have hd2' : [Value.pointer none].length + 1 = 2 := rfl
    cases hlo : lookT (bare E) nm with
    | some y =>
      obtain ⟨iy, hiy, _⟩ := look_at hlo
      rw [hiy, Option.getD_some, Option.isSome_some] at hlk
      simp (config := { maxSteps := 1000000, implicitDefEqProofs := false }) (disch := omega) only [allW, allR, oneOf, evalAll, partsA, optA, Nat.reduceLT, Nat.reduceLeDiff, Nat.reduceEqDiff, Nat.reduceAdd, ↓reduceIte, hn, h4, h7, h44, h45, extT0, extT1, qB, hlk, szTab, zTab, plTab, zTabCells]
      refine wstep_newPtr ?_
      intro s13 ht13 hst13 hnx13
      simp (config := { maxSteps := 1000000, implicitDefEqProofs := false }) (disch := omega) only [allW, allR, oneOf, evalAll, partsA, optA, Nat.reduceLT, Nat.reduceLeDiff, Nat.reduceEqDiff, Nat.reduceAdd, ↓reduceIte, hn, h4, h7, h44, h45, extT0, extT1, hd2']
      refine wstep_storeAll szTab (by decide) ht13 rfl rfl (vs := #[cptr iy]) rfl rfl ?_
      intro s14 ht14 hnx14 hot14
      simp (config := { maxSteps := 1000000, implicitDefEqProofs := false }) (disch := omega) only [allW, allR, oneOf, evalAll, partsA, optA, Nat.reduceLT, Nat.reduceLeDiff, Nat.reduceEqDiff, Nat.reduceAdd, ↓reduceIte, undef, hn, h4, h7, h44, h45]
      exact hfail _ _ (by simp only [get_put, n_put, ↓reduceIte, Nat.reduceEqDiff, hn]) (.inr (.inr (by rw [hlo]; rfl))) (hst12.trans ((hst13.weaken (by omega)).trans ⟨by omega, fun j hj => hot14 j (by omega)⟩)) (by simp only [get_put, n_put, ↓reduceIte, Nat.reduceEqDiff]) (by simp only [get_put, n_put, ↓reduceIte, Nat.reduceEqDiff])
    | none =>
    have hsk := look_no hlo
    rw [hsk, Option.getD_none, Option.isSome_none] at hlk
    simp (config := { maxSteps := 1000000, implicitDefEqProofs := false }) (disch := omega) only [allW, allR, oneOf, evalAll, partsA, optA, Nat.reduceLT, Nat.reduceLeDiff, Nat.reduceEqDiff, Nat.reduceAdd, ↓reduceIte, hn, h4, h7, h44, h45, extT0, extT1, qB, hlk, szTab, zTab, plTab, zTabCells]
    refine wstep_newPtr ?_
    intro s13 ht13 hst13 hnx13
    simp (config := { maxSteps := 1000000, implicitDefEqProofs := false }) (disch := omega) only [allW, allR, oneOf, evalAll, partsA, optA, Nat.reduceLT, Nat.reduceLeDiff, Nat.reduceEqDiff, Nat.reduceAdd, ↓reduceIte, hn, h4, h7, h44, h45, extT0, extT1, hd2']
    refine wstep_storeAll szTab (by decide) ht13 rfl rfl (vs := #[.pointer none]) rfl rfl ?_
    intro s14 ht14 hnx14 hot14
    have hst14 : Stay s12.next s12 s14 := hst13.trans ⟨by omega, fun j hj => hot14 j (by omega)⟩
    have hT14 := hT12.keeps hst14
    have ht14 := ht12.keeps hst14
    have l14 := ht14.load (P := Try.prog) agCurP (off := 0) (c := 2) rfl (by simp)
    simp (config := { maxSteps := 1000000, implicitDefEqProofs := false }) (disch := omega) only [allW, allR, oneOf, evalAll, partsA, optA, Nat.reduceLT, Nat.reduceLeDiff, Nat.reduceEqDiff, Nat.reduceAdd, ↓reduceIte, undef, hn, h4, h7, h44, h45, sffld0, l14]
    refine (seek_tab hT14 (List.mem_cons_self ..) _).mono ?_
    rintro _ s15 ⟨rfl, hT15, hto15, hat15⟩
    have hst15 : Stay s.next s s15 := (hst12.trans (hst14.weaken (by omega))).trans (hto15.keeps hge (by have := hst14.next; omega))
    by_cases c4 : l.length < word l (12 + 16 * k + 8)
    · have d4 : ¬ ((0 : Int) ≤ ((word l (12 + 16 * k + 8) : Nat) : Int) ∧ word l (12 + 16 * k + 8) ≤ l.length) := by omega
      simp (config := { maxSteps := 1000000, implicitDefEqProofs := false }) (disch := omega) only [allW, allR, oneOf, evalAll, partsA, optA, Nat.reduceLT, Nat.reduceLeDiff, Nat.reduceEqDiff, Nat.reduceAdd, ↓reduceIte, undef, hn, h4, h7, h44, h45, decide_eq_false d4, Bool.not_false]
      exact hfail _ _ (by simp only [get_put, n_put, ↓reduceIte, Nat.reduceEqDiff, hn]) (.inl c4) hst15 (by simp only [get_put, n_put, ↓reduceIte, Nat.reduceEqDiff]) (by simp only [get_put, n_put, ↓reduceIte, Nat.reduceEqDiff])
    have d4 : ((0 : Int) ≤ ((word l (12 + 16 * k + 8) : Nat) : Int) ∧ word l (12 + 16 * k + 8) ≤ l.length) := by omega
    have hat := hat15 (by omega)
    rw [Int.toNat_natCast] at hat
    have ht15 := ht14.cto hto15 hj4n
    have l15 := ht15.load (P := Try.prog) agCurP (off := 0) (c := 2) rfl (by simp)
    simp (config := { maxSteps := 1000000, implicitDefEqProofs := false }) (disch := omega) only [allW, allR, oneOf, evalAll, partsA, optA, Nat.reduceLT, Nat.reduceLeDiff, Nat.reduceEqDiff, Nat.reduceAdd, ↓reduceIte, undef, hn, h4, h7, h44, h45, sffld0, l15, decide_eq_true d4, Bool.not_true]
    refine (take_tab hT15 (List.mem_cons_self ..) hat _ (by omega)).mono ?_
    rintro _ s16 ⟨D, rfl, hD, hDF, hT16, hto16⟩
    have hst16 : Stay s.next s s16 := hst15.trans (hto16.keeps hge hst15.next)
    by_cases c5 : l.length - word l (12 + 16 * k + 8) < word l (12 + 16 * k + 12)
    · have d5 : ¬ ((0 : Int) ≤ ((word l (12 + 16 * k + 12) : Nat) : Int) ∧ word l (12 + 16 * k + 12) ≤ l.length - word l (12 + 16 * k + 8)) := by omega
      simp (config := { maxSteps := 1000000, implicitDefEqProofs := false }) (disch := omega) only [allW, allR, oneOf, evalAll, partsA, optA, Nat.reduceLT, Nat.reduceLeDiff, Nat.reduceEqDiff, Nat.reduceAdd, ↓reduceIte, undef, hn, h4, h7, h44, h45, extT0, extT1, decide_eq_false d5, Bool.not_false]
      exact hfail _ _ (by simp only [get_put, n_put, ↓reduceIte, Nat.reduceEqDiff, hn]) (.inr (.inl c5)) hst16 (by simp only [get_put, n_put, ↓reduceIte, Nat.reduceEqDiff]) (by simp only [get_put, n_put, ↓reduceIte, Nat.reduceEqDiff])
    have d5 : ((0 : Int) ≤ ((word l (12 + 16 * k + 12) : Nat) : Int) ∧ word l (12 + 16 * k + 12) ≤ l.length - word l (12 + 16 * k + 8)) := by omega
    have hD' : takeIs l (word l (12 + 16 * k + 8)) ((word l (12 + 16 * k + 12) : Nat) : Int) = (l.drop (word l (12 + 16 * k + 8))).take (word l (12 + 16 * k + 12)) := takeIs_at (by omega)
    rw [hD'] at hD
    obtain ⟨dt, hdt⟩ : ∃ dt, dt = (l.drop (word l (12 + 16 * k + 8))).take (word l (12 + 16 * k + 12)) := ⟨_, rfl⟩
    rw [← hdt] at hD
    rw [← hdt, if_neg (by rw [hlo]; simp [c4, c5])] at htot
    have hT11lt := hT11.lt
    have hT15lt := hT15.lt
    have hnB : ∀ i, idOf B = some i → i ∉ idsT ((s.next, l) :: curO E) := fun i hi hm => by have := hBF i hi; have := hT11lt i hm; omega
    have hB16 : Own s16 1 B nm.length (ofBytes nm) := ((hB.keeps hst14).cto hto15 hnB).cto hto16 hnB
    have qB16 := hB16.sees.str (P := Try.prog) (dst := 9) Try.underlying27 Try.underlying9 Try.underlying5
    have hM16 : MapVs s16 r (mapO E) := ((hM12.keeps hst14).cto hto15 hrn).cto hto16 hrn
    have ht16 := ht15.cto hto16 hj4n
    have hrl := hM16.lt
    simp (config := { maxSteps := 1000000, implicitDefEqProofs := false }) (disch := omega) only [allW, allR, oneOf, evalAll, partsA, optA, Nat.reduceLT, Nat.reduceLeDiff, Nat.reduceEqDiff, Nat.reduceAdd, ↓reduceIte, undef, hn, h4, h7, h44, h45, extT0, extT1, decide_eq_true d5, Bool.not_true]
    refine LB.Drawn.looseK (fun j => decide (j < s16.next)) (fun j h => of_decide_eq_true h) 1 0 (by kernel_rfl) (by kernel_rfl) ?_
    rw [spare_zero]
    have hlB : LA.lowC (fun j => decide (j < s16.next)) (some B) = true := LA.lowC_of (LA.lowV_own hB16 (fun i hi => decide_eq_true (hB16.idlt i hi)))
    simp (config := { maxSteps := 1000000, implicitDefEqProofs := false }) (disch := omega) only [allW, allR, allL, allB, Nat.sub_self, Nat.add_one_sub_one, Nat.reduceSub, oneOf, evalAll, partsA, optA, Nat.reduceLT, Nat.reduceLeDiff, Nat.reduceEqDiff, Nat.reduceAdd, ↓reduceIte, hn, h4, h7, h44, h45, qB16, hlB, valEq_mapV, hB16.self, hD.self, valEq_string]
    refine (new_b (lib := libN) rfl s16 D dt hD.sees).mono ?_
    rintro _ s17 ⟨rfl, ⟨b17, hb17, hb17s, hb17h⟩, hst17, hnx17⟩
    refine ⟨fun _ => LA.Stay.toA (fun i hi => of_decide_eq_true hi) hst17, ?_⟩
    obtain ⟨s18, hup18, hM18, hnx18, hot18⟩ := (hM16.keeps hst17).update (P := Try.prog) Try.underlying49 Try.underlying9 nm (tabV s16.next) hsk
    have hvt' : valEq (tabV s16.next) (tabV s16.next) = true := by simp [valEq, valEqL, valEq1]
    simp (config := { maxSteps := 1000000, implicitDefEqProofs := false }) (disch := omega) only [allW, allR, allL, allB, Nat.sub_self, Nat.add_one_sub_one, Nat.reduceSub, oneOf, evalAll, partsA, optA, Nat.reduceLT, Nat.reduceLeDiff, Nat.reduceEqDiff, Nat.reduceAdd, ↓reduceIte, hn, h4, h7, h44, h45, tabBuild, hvt', hup18]
    rw [LB.sstep_val]
    refine ⟨fun h => by simp at h, ?_⟩
    have hjl := ht16.lt
    have hnn : ∀ j, home b17 = some j → j < s16.next ∧ j ∉ [r] ++ idsT ((s.next, l) :: curO E) := by
      intro j hj
      have h1 := home_id (hb17h j hj)
      have h2 := hD.idlt j h1
      have h3 := hDF j h1
      refine ⟨h2, fun hm => ?_⟩
      rcases List.mem_append.mp hm with q | q
      · have := List.mem_singleton.mp q; have := hM12.lt; have := hst14.next; have := hto15.next; omega
      · have := hT15lt j q; omega
    have hT17 := hT16.add hst17 (Nat.le_refl _) hb17 hb17s hnn
    have hrn' : r ∉ idsT ((s.next, l) :: curO E ++ [(s16.next, dt)]) := by
      intro h
      have e : idsT ((s.next, l) :: curO E ++ [(s16.next, dt)]) = idsT ((s.next, l) :: curO E) ++ [s16.next] := by simp [idsT]
      rw [e] at h
      rcases List.mem_append.mp h with h | h
      · exact hrn h
      · have := List.mem_singleton.mp h; omega
    have hT18 := hT17.ctoX (CTo.ofPut (I := [r]) hnx18 hot18 (List.mem_singleton.mpr rfl)) (fun j hj => ⟨hj, by rw [List.mem_singleton.mp hj]; exact hrn'⟩)
    simp (config := { maxSteps := 1000000, implicitDefEqProofs := false }) (disch := omega) only [allW, allR, allL, allB, Nat.sub_self, Nat.add_one_sub_one, Nat.reduceSub, oneOf, evalAll, partsA, optA, Nat.reduceLT, Nat.reduceLeDiff, Nat.reduceEqDiff, Nat.reduceAdd, ↓reduceIte, hn, h4, h7, h44, h45, wrapI]
    have e1 : bare E ++ [(nm, dt)] = bare (E ++ [(nm, s16.next, dt)]) := by simp [bare]
    have e2 : mapO E ++ [(nm, tabV s16.next)] = mapO (E ++ [(nm, s16.next, dt)]) := by simp [mapO]
    have e3 : (s.next, l) :: curO E ++ [(s16.next, dt)] = (s.next, l) :: curO (E ++ [(nm, s16.next, dt)]) := by simp [curO]
    rw [e1] at htot
    rw [e2] at hM18
    rw [e3] at hT18
    have hst18 : Stay s.next s s18 := (hst16.trans (hst17.weaken hst16.next)).trans ⟨by omega, fun j hj => hot18 j (by omega)⟩
    refine wround_next (many - (k + 1)) (by omega) ⟨k + 1, E ++ [(nm, s16.next, dt)], rfl, by omega, htot, hT18, hM18, ?_, (ht16.keeps hst17).ofPut hnx18 hot18 (by omega), hst18, by simp only [get_put, n_put, ↓reduceIte, Nat.reduceEqDiff, hn], by simp only [get_put, n_put, ↓reduceIte, Nat.reduceEqDiff, h4], by simp only [get_put, n_put, ↓reduceIte, Nat.reduceEqDiff, h7], by simp only [get_put, n_put, ↓reduceIte, Nat.reduceEqDiff, h44], by simp only [get_put, n_put, ↓reduceIte, Nat.reduceEqDiff]; rfl⟩
    intro e he
    rcases List.mem_append.mp he with h | h
    · exact hup e h
    · rw [List.mem_singleton.mp h]; exact hrl
end Go.Proofs.Ytpdkppimlcbhlaa
