/-
  The clean machine, part 13: blocks that a step does not know turn nothing in it.
-/
import Derived.Test.YtbakljlaladpoaaCl2
namespace Go.Cl

structure WF (s : ASt) : Prop where
  room : 0 ≤ 16000000
  bound : ∀ j o, s.heap.get j = some o → j < s.next

/-- s' is s with some blocks more, at places below the next one. -/
structure Adds (s s' : ASt) (X : Nat → Option AO) : Prop where
  next : s'.next = s.next
  free : ∀ j o, X j = some o → s.heap.get j = none ∧ j < s.next
  get : ∀ j, s'.heap.get j = match X j with
    | some o => some o
    | none => s.heap.get j

structure Keeps (s t : ASt) : Prop where
  next : s.next ≤ t.next
  gone : ∀ j, j < s.next → s.heap.get j = none → t.heap.get j = none
  here : ∀ j, s.heap.get j ≠ none → t.heap.get j ≠ none
  wf : WF t

theorem Keeps.refl {s : ASt} (h : WF s) : Keeps s s := ⟨Nat.le_refl _, fun _ _ h => h, fun _ h => h, h⟩
theorem Keeps.trans {s t u : ASt} (h : Keeps s t) (k : Keeps t u) : Keeps s u :=
  ⟨Nat.le_trans h.next k.next, fun j hj hn => k.gone j (Nat.lt_of_lt_of_le hj h.next) (h.gone j hj hn), fun j hj => k.here j (h.here j hj), k.wf⟩

section
variable {s s' : ASt} {X : Nat → Option AO}
theorem Adds.same (h : Adds s s' X) {j : Nat} {o : AO} (hj : s.heap.get j = some o) : s'.heap.get j = some o := by
  rw [h.get j]
  cases hx : X j with
  | none => exact hj
  | some o' => have := (h.free j o' hx).1; rw [hj] at this; cases this
theorem Adds.blk (h : Adds s s' X) {i : Nat} {b : Blk} (hb : s.blk? i = some b) : s'.blk? i = some b := by
  unfold ASt.blk? at *
  split at hb
  · rename_i b0 hg; rw [h.same hg]; exact hb
  · cases hb
theorem Adds.map (h : Adds s s' X) {i : Nat} {es : List (Value × Value)} (hb : s.map? i = some es) : s'.map? i = some es := by
  unfold ASt.map? at *
  split at hb
  · rename_i b0 hg; rw [h.same hg]; exact hb
  · cases hb
theorem Adds.cells (h : Adds s s' X) {i off c n : Nat} {l : List Value} (hc : s.cellsAt i off c n = some l) : s'.cellsAt i off c n = some l := by
  unfold ASt.cellsAt at *
  split at hc
  · rename_i b hb; rw [h.blk hb]; exact hc
  · cases hc
theorem get_of_blk {i : Nat} {b : Blk} (hb : s.blk? i = some b) : s.heap.get i = some (.blk b) := by
  unfold ASt.blk? at hb
  split at hb
  · rename_i b0 hg; rw [hg]; rw [Option.some.inj hb]
  · cases hb
theorem get_of_map {i : Nat} {es : List (Value × Value)} (hb : s.map? i = some es) : s.heap.get i = some (.map es) := by
  unfold ASt.map? at hb
  split at hb
  · rename_i b0 hg; rw [hg]; rw [Option.some.inj hb]
  · cases hb

theorem Adds.put (h : Adds s s' X) (hw : WF s) {i : Nat} {o0 o : AO} (hi : s.heap.get i = some o0) : Adds (s.put i o) (s'.put i o) X ∧ Keeps s (s.put i o) := by
  have hlt := hw.bound i o0 hi
  have hr := hw.room
  have hd : i + 1 < 2 ^ depth i := deep (by omega)
  have hX : X i = none := by
    cases hx : X i with
    | none => rfl
    | some o' => have := (h.free i o' hx).1; rw [hi] at this; cases this
  refine ⟨⟨h.next, fun j o1 hj => ?_, fun j => ?_⟩, ⟨Nat.le_refl _, fun j hj hn => ?_, fun j hj => ?_, hr, fun j o1 hj => ?_⟩⟩
  · have hji : i ≠ j := fun e => by rw [e] at hX; rw [hX] at hj; cases hj
    simp only [ASt.put, Tr.get_set_ne _ _ _ _ _ hji]
    exact h.free j o1 hj
  · by_cases hji : i = j
    · subst hji
      simp only [ASt.put, Tr.get_set_self _ _ _ _ hd, hX]
    · simp only [ASt.put, Tr.get_set_ne _ _ _ _ _ hji]
      exact h.get j
  · have hji : i ≠ j := fun e => by rw [e] at hi; rw [hi] at hn; cases hn
    simp only [ASt.put, Tr.get_set_ne _ _ _ _ _ hji]; exact hn
  · by_cases hji : i = j
    · subst hji; simp [ASt.put, Tr.get_set_self _ _ _ _ hd]
    · simp only [ASt.put, Tr.get_set_ne _ _ _ _ _ hji]; exact hj
  · by_cases hji : i = j
    · subst hji; exact hlt
    · simp only [ASt.put, Tr.get_set_ne _ _ _ _ _ hji] at hj
      exact hw.bound j o1 hj
theorem Adds.new (h : Adds s s' X) (hw : WF s) (hroom : s.room = true) (o : AO) : Adds (s.new o) (s'.new o) X ∧ Keeps s (s.new o) := by
  have hlt : 0 < 16000000 := by omega
  have hd : s.next + 1 < 2 ^ depth s.next := deep (by omega)
  have hXn : X s.next = none := by
    cases hx : X s.next with
    | none => rfl
    | some o' => have := (h.free _ o' hx).2; omega
  refine ⟨⟨by simp only [ASt.new, h.next], fun j o1 hj => ?_, fun j => ?_⟩, ⟨by simp only [ASt.new]; omega, fun j hj hn => ?_, fun j hj => ?_, by omega, fun j o1 hj => ?_⟩⟩
  · obtain ⟨h1, h2⟩ := h.free j o1 hj
    have hji : s.next ≠ j := by omega
    refine ⟨?_, by simp only [ASt.new]; omega⟩
    simp only [ASt.new, Tr.get_set_ne _ _ _ _ _ hji]; exact h1
  · by_cases hji : s.next = j
    · subst hji
      simp only [ASt.new, h.next, Tr.get_set_self _ _ _ _ hd, hXn]
    · simp only [ASt.new, h.next, Tr.get_set_ne _ _ _ _ _ hji]
      exact h.get j
  · have hji : s.next ≠ j := by omega
    simp only [ASt.new, Tr.get_set_ne _ _ _ _ _ hji]; exact hn
  · have hji : s.next ≠ j := fun e => by
      have : s.heap.get j = none := by
        cases hg : s.heap.get j with
        | none => rfl
        | some o1 => have := hw.bound j o1 hg; omega
      exact hj this
    simp only [ASt.new, Tr.get_set_ne _ _ _ _ _ hji]; exact hj
  · by_cases hji : s.next = j
    · subst hji; simp only [ASt.new]; omega
    · simp only [ASt.new, Tr.get_set_ne _ _ _ _ _ hji] at hj
      have := hw.bound j o1 hj
      simp only [ASt.new]; omega
theorem Adds.room (_ : Adds s s' X) : s'.room = s.room := rfl

/-! What makes memory. -/
def Fr (s : ASt) (X : Nat → Option AO) (v : Value) (t : ASt) (r : Option (Value × ASt)) : Prop := ∃ t', r = some (v, t') ∧ Adds t t' X ∧ Keeps s t
theorem newPtr_fr (h : Adds s s' X) (hw : WF s) {cs : List Value} {esz : Nat} {v : Value} {t : ASt} (hn : newPtr s cs esz = some (v, t)) : Fr s X v t (newPtr s' cs esz) := by
  unfold newPtr at *
  rw [h.room, h.next]
  split at hn
  · rename_i hr
    injection hn with hn; injection hn with e1 e2; subst e1; subst e2
    rw [if_pos hr]
    exact ⟨_, rfl, h.new hw hr _⟩
  · cases hn
theorem newSlice_fr (h : Adds s s' X) (hw : WF s) {cs : List Value} {len esz : Nat} {v : Value} {t : ASt} (hn : newSlice s cs len esz = some (v, t)) : Fr s X v t (newSlice s' cs len esz) := by
  unfold newSlice at *
  rw [h.room, h.next]
  split at hn
  · rename_i hr
    injection hn with hn; injection hn with e1 e2; subst e1; subst e2
    rw [if_pos hr]
    exact ⟨_, rfl, h.new hw hr _⟩
  · cases hn
theorem storeAt_fr (h : Adds s s' X) (hw : WF s) {i off c : Nat} {vs : List Value} {t : ASt} (hs : s.storeAt i off c vs = some t) : ∃ t', s'.storeAt i off c vs = some t' ∧ Adds t t' X ∧ Keeps s t := by
  unfold ASt.storeAt at *
  split at hs
  · rename_i b hb
    rw [h.blk hb]
    simp only
    split at hs
    · rename_i hc
      rw [if_pos hc]
      split at hs
      · cases hs
      · split at hs
        · rename_i l hl
          obtain rfl := Option.some.inj hs
          exact ⟨_, rfl, h.put hw (get_of_blk hb)⟩
        · cases hs
    · cases hs
  · cases hs
theorem storeA_fr {P : Program} (h : Adds s s' X) (hw : WF s) {ty : TypeId} {a v : Value} {t : ASt} (hs : storeA P s ty a v = some t) : ∃ t', storeA P s' ty a v = some t' ∧ Adds t t' X ∧ Keeps s t := by
  unfold storeA at *
  split at hs
  · split at hs
    · rename_i hc
      obtain rfl := Option.some.inj hs
      refine ⟨s', ?_, h, Keeps.refl hw⟩
      rw [if_pos hc]
    · cases hs
  · rename_i hne
    split at hs
    · rename_i hc; rw [if_pos hc]; exact storeAt_fr h hw hs
    · cases hs
  · cases hs
theorem buildSliceA_fr {P : Program} (h : Adds s s' X) (hw : WF s) {ty : TypeId} {n : Nat} {ps : List (Nat × Value)} {v : Value} {t : ASt} (hn : buildSliceA P s ty n ps = some (v, t)) : Fr s X v t (buildSliceA P s' ty n ps) := by
  unfold buildSliceA at *
  split at hn
  · split at hn
    · split at hn
      · rename_i hc
        rw [if_pos hc]
        split at hn
        · exact newSlice_fr h hw hn
        · cases hn
      · cases hn
    · cases hn
  · cases hn
theorem makeSliceA_fr {P : Program} (h : Adds s s' X) (hw : WF s) {ty : TypeId} {x y v : Value} {t : ASt} (hn : makeSliceA P s ty x y = some (v, t)) : Fr s X v t (makeSliceA P s' ty x y) := by
  unfold makeSliceA at *
  split at hn
  · split at hn
    · split at hn
      · rename_i hc; rw [if_pos hc]; exact newSlice_fr h hw hn
      · cases hn
    · cases hn
  · cases hn
theorem convA_fr {P : Program} (h : Adds s s' X) (hw : WF s) {a b : TypeId} {x v : Value} {t : ASt} (hc : convA P s a b x = some (v, t)) : Fr s X v t (convA P s' a b x) := by
  unfold convA at *
  split at hc
  · injection hc with hc; injection hc with e1 e2; subst e1; subst e2; exact ⟨_, rfl, h, Keeps.refl hw⟩
  · injection hc with hc; injection hc with e1 e2; subst e1; subst e2; exact ⟨_, rfl, h, Keeps.refl hw⟩
  · split at hc
    · rename_i hq; rw [if_pos hq]; exact newSlice_fr h hw hc
    · cases hc
  · split at hc
    · cases hc
    · split at hc
      · rename_i b0 hb
        rw [h.blk hb]
        simp only
        split at hc
        · rename_i hq
          rw [if_pos hq]
          injection hc with hc; injection hc with e1 e2; subst e1; subst e2
          exact ⟨_, rfl, h.put hw (get_of_blk hb)⟩
        · cases hc
      · cases hc
  · split at hc
    · rename_i hq; rw [if_pos hq]; injection hc with hc; injection hc with e1 e2; subst e1; subst e2; exact ⟨_, rfl, h, Keeps.refl hw⟩
    · cases hc
  · split at hc
    · rename_i hq
      rw [if_pos hq]
      split at hc
      · injection hc with hc; injection hc with e1 e2; subst e1; subst e2; exact ⟨_, rfl, h, Keeps.refl hw⟩
      · split at hc
        · rename_i l hl
          rw [h.cells hl]
          simp only
          split at hc
          · injection hc with hc; injection hc with e1 e2; subst e1; subst e2; exact ⟨_, rfl, h, Keeps.refl hw⟩
          · cases hc
        · cases hc
    · cases hc
  · cases hc
theorem srcCells_fr (h : Adds s s' X) {z : Nat} {y : Value} {r : Nat × List Value} (hs : srcCells s z y = some r) : srcCells s' z y = some r := by
  unfold srcCells at *
  split at hs
  · exact hs
  · split at hs
    · exact hs
    · split at hs
      · rename_i l hl; rw [h.cells hl]; exact hs
      · cases hs
  · exact hs
  · cases hs
theorem srcA_fr (h : Adds s s' X) {z by8 : Nat} {zv y : Value} {xd : TypeDesc} {r : Nat × List Value} (hs : srcA s z by8 zv xd y = some r) : srcA s' z by8 zv xd y = some r := by
  unfold srcA at *
  split at hs
  · exact hs
  · exact srcCells_fr h hs
theorem appendA_fr {P : Program} (h : Adds s s' X) (hw : WF s) {st xt : TypeId} {x y v : Value} {t : ASt} (ha : appendA P s st xt x y = some (v, t)) : Fr s X v t (appendA P s' st xt x y) := by
  unfold appendA at *
  split at ha
  case h_2 => cases ha
  split at ha
  case h_1 => cases ha
  split at ha
  case h_2 => cases ha
  split at ha
  case h_2 => cases ha
  rename_i n new hsrc
  rw [srcA_fr h hsrc]
  simp only
  split at ha
  case h_2 => cases ha
  split at ha
  case isFalse => cases ha
  rename_i hc
  rw [if_pos hc]
  split at ha
  · injection ha with ha; injection ha with e1 e2; subst e1; subst e2; exact ⟨_, rfl, h, Keeps.refl hw⟩
  · split at ha
    · split at ha
      · rename_i hq; rw [if_pos hq]; exact newSlice_fr h hw ha
      · cases ha
    · split at ha
      · split at ha
        · rename_i hq; rw [if_pos hq]; exact newSlice_fr h hw ha
        · cases ha
      · split at ha
        case h_2 => cases ha
        rename_i b hb
        rw [h.blk hb]
        simp only
        split at ha
        case isFalse => cases ha
        rename_i hq
        rw [if_pos hq]
        split at ha
        · rename_i hq2
          rw [if_pos hq2]
          injection ha with ha; injection ha with e1 e2; subst e1; subst e2
          exact ⟨_, rfl, h.put hw (get_of_blk hb)⟩
        · rename_i hq2
          rw [if_neg hq2]
          split at ha
          · rename_i old hl
            rw [h.cells hl]
            simp only
            obtain ⟨h1, h2⟩ := h.put (o := .blk (Cl.kill b)) hw (get_of_blk hb)
            obtain ⟨t', k1, k2, k3⟩ := newSlice_fr h1 h2.wf ha
            exact ⟨t', k1, k2, h2.trans k3⟩
          · cases ha
    · cases ha
theorem copyA_fr {P : Program} (h : Adds s s' X) (hw : WF s) {dt : TypeId} {x y v : Value} {t : ASt} (ha : copyA P s dt x y = some (v, t)) : Fr s X v t (copyA P s' dt x y) := by
  unfold copyA at *
  split at ha
  case h_2 => cases ha
  split at ha
  case h_2 => cases ha
  split at ha
  · injection ha with ha; injection ha with e1 e2; subst e1; subst e2; exact ⟨_, rfl, h, Keeps.refl hw⟩
  · split at ha
    case h_2 => cases ha
    rename_i k2 new i off hs
    rw [srcCells_fr h hs]
    simp only
    split at ha
    case h_2 => cases ha
    rename_i u hk hst
    injection ha with ha; injection ha with e1 e2; subst e1; subst e2
    obtain ⟨t', k1, k2, k3⟩ := storeAt_fr h hw hst
    rw [hk, k1]
    exact ⟨_, rfl, k2, k3⟩
theorem clearA_fr {P : Program} (h : Adds s s' X) (hw : WF s) {ty : TypeId} {x v : Value} {t : ASt} (ha : clearA P s ty x = some (v, t)) : Fr s X v t (clearA P s' ty x) := by
  unfold clearA at *
  split at ha
  · injection ha with ha; injection ha with e1 e2; subst e1; subst e2; exact ⟨_, rfl, h, Keeps.refl hw⟩
  · split at ha
    · injection ha with ha; injection ha with e1 e2; subst e1; subst e2; exact ⟨_, rfl, h, Keeps.refl hw⟩
    · split at ha
      case h_2 => cases ha
      rename_i m z zv hz hzv
      split at ha
      case isFalse => cases ha
      rename_i hc
      split at ha
      case h_2 => cases ha
      rename_i s1 hst
      injection ha with ha; injection ha with e1 e2; subst e1; subst e2
      obtain ⟨t', k1, k2, k3⟩ := storeAt_fr h hw hst
      rw [if_pos hc, k1]
      exact ⟨_, rfl, k2, k3⟩
  · cases ha
theorem mapUpdateA_fr {P : Program} (h : Adds s s' X) (hw : WF s) {ty : TypeId} {m k v : Value} {t : ASt} (hu : mapUpdateA P s ty m k v = some t) : ∃ t', mapUpdateA P s' ty m k v = some t' ∧ Adds t t' X ∧ Keeps s t := by
  unfold mapUpdateA at *
  split at hu
  · split at hu
    · rename_i es he hk
      rw [h.map he]
      simp only [hk]
      split at hu
      · obtain rfl := Option.some.inj hu
        exact ⟨_, rfl, h.put hw (get_of_map he)⟩
      · cases hu
    · cases hu
  · cases hu

/-! What only looks. -/
theorem loadA_fr {P : Program} (h : Adds s s' X) {ty : TypeId} {a v : Value} (hl : loadA P s ty a = some v) : loadA P s' ty a = some v := by
  unfold loadA at *
  split at hl
  · split at hl
    · split at hl
      · rename_i l hc; rw [h.cells hc]; exact hl
      · cases hl
    · split at hl
      · rename_i v0 r0 hc; rw [h.cells hc]; exact hl
      · cases hl
    · cases hl
  · cases hl
theorem eszIs_fr (h : Adds s s' X) {i c z : Nat} (he : eszIs s i c z = true) : eszIs s' i c z = true := by
  unfold eszIs at *
  split at he
  · rfl
  · split at he
    · rename_i b hb; rw [h.blk hb]; exact he
    · cases he
theorem sliceA_fr {P : Program} (h : Adds s s' X) {ty : TypeId} {x v : Value} {lo hi mx : Option Value} (hs : sliceA P s ty x lo hi mx = some v) : sliceA P s' ty x lo hi mx = some v := by
  unfold sliceA at *
  split at hs
  · exact hs
  · split at hs
    · split at hs
      · rename_i hc
        rw [if_pos hc]
        split at hs
        · split at hs
          · exact hs
          · split at hs
            · rename_i he; rw [if_pos (eszIs_fr h he)]; exact hs
            · cases hs
          · cases hs
        · split at hs
          · split at hs
            · rename_i hc2
              rw [if_pos hc2]
              split at hs
              · exact hs
              · split at hs
                · rename_i he; rw [if_pos (eszIs_fr h he)]; exact hs
                · cases hs
              · cases hs
            · cases hs
          · cases hs
      · cases hs
    · cases hs
  · split at hs
    · rename_i l hh z b q1 q2 q3 hb
      rw [q1, q2, q3, h.blk hb]
      exact hs
    · cases hs
  · cases hs
theorem lenA_fr {P : Program} (h : Adds s s' X) {ty : TypeId} {x v : Value} (hl : lenA P s ty x = some v) : lenA P s' ty x = some v := by
  unfold lenA at *
  split at hl <;> try exact hl
  · split at hl
    · rename_i es he; rw [h.map he]; exact hl
    · cases hl
theorem lookupA_fr {P : Program} (h : Adds s s' X) {ty : TypeId} {m k v : Value} {ok : Bool} (hl : lookupA P s ty m k ok = some v) : lookupA P s' ty m k ok = some v := by
  unfold lookupA at *
  split at hl
  case h_2 => cases hl
  split at hl
  case h_2 => cases hl
  rename_i z hz hk
  split at hl
  case isFalse => cases hl
  rename_i hp
  rw [if_pos hp]
  cases m <;> try (simp at hl; done)
  rename_i r
  cases r with
  | none => exact hl
  | some r =>
    simp only at hl ⊢
    cases he : s.map? r with
    | none => rw [he] at hl; simp at hl
    | some es => rw [h.map he]; rw [he] at hl; exact hl
end

/-! Any operation. -/
def FrAR (P : Program) (o : Oper) (f : AFr) (s s' : ASt) (X : Nat → Option AO) : AR → Prop
  | .val v t => ∃ t', aop P o f s' = some (.val v t') ∧ Adds t t' X ∧ Keeps s t
  | .call g args => aop P o f s' = some (.call g args)

theorem vOf_fr {s s' : ASt} {X : Nat → Option AO} (h : Adds s s' X) (hw : WF s) {r r' : Option Value} (hr : ∀ v, r = some v → r' = some v) {x : AR} (hx : vOf s r = some x) :
    ∃ v t t', x = .val v t ∧ vOf s' r' = some (.val v t') ∧ Adds t t' X ∧ Keeps s t := by
  cases r with
  | none => simp [vOf] at hx
  | some v =>
    simp only [vOf] at hx
    obtain rfl := Option.some.inj hx
    exact ⟨v, s, s', rfl, by rw [hr v rfl]; rfl, h, Keeps.refl hw⟩
theorem pOf_fr {s : ASt} {X : Nat → Option AO} {r r' : Option (Value × ASt)} (hr : ∀ v t, r = some (v, t) → Fr s X v t r') {x : AR} (hx : pOf r = some x) :
    ∃ v t t', x = .val v t ∧ pOf r' = some (.val v t') ∧ Adds t t' X ∧ Keeps s t := by
  cases r with
  | none => simp [pOf] at hx
  | some p =>
    obtain ⟨v, t⟩ := p
    simp only [pOf] at hx
    obtain rfl := Option.some.inj hx
    obtain ⟨t', k1, k2, k3⟩ := hr v t rfl
    exact ⟨v, t, t', rfl, by rw [k1]; rfl, k2, k3⟩
theorem uOf_fr {s : ASt} {X : Nat → Option AO} {r r' : Option ASt} (hr : ∀ t, r = some t → ∃ t', r' = some t' ∧ Adds t t' X ∧ Keeps s t) {x : AR} (hx : uOf r = some x) :
    ∃ v t t', x = .val v t ∧ uOf r' = some (.val v t') ∧ Adds t t' X ∧ Keeps s t := by
  cases r with
  | none => simp [uOf] at hx
  | some t =>
    simp only [uOf] at hx
    obtain rfl := Option.some.inj hx
    obtain ⟨t', k1, k2, k3⟩ := hr t rfl
    exact ⟨undef, t, t', rfl, by rw [k1]; rfl, k2, k3⟩

theorem aop_fr {P : Program} {o : Oper} {f : AFr} {s s' : ASt} {X : Nat → Option AO} (h : Adds s s' X) (hw : WF s) {x : AR} (hx : aop P o f s = some x) : FrAR P o f s s' X x := by
  have fin : (∃ v t t', x = .val v t ∧ aop P o f s' = some (.val v t') ∧ Adds t t' X ∧ Keeps s t) → FrAR P o f s s' X x := by
    rintro ⟨v, t, t', rfl, k1, k2, k3⟩
    exact ⟨t', k1, k2, k3⟩
  obtain ⟨dst, op, type, pos, after, guard⟩ := o
  cases op <;> (try simp only [aop] at hx fin ⊢) <;> (try (cases hx; done))
  case move y => exact fin (vOf_fr h hw (fun v hv => hv) hx)
  case assign y => exact fin (vOf_fr h hw (fun v hv => hv) hx)
  case pick c y z =>
    apply fin
    split at hx
    · rename_i t u v h1 h2 h3
      obtain rfl := Option.some.inj hx
      exact ⟨_, s, s', rfl, rfl, h, Keeps.refl hw⟩
    · cases hx
  case alloc e =>
    apply fin
    split at hx
    · split at hx
      · rename_i hp; rw [if_pos hp]; exact pOf_fr (fun v t hv => newPtr_fr h hw hv) hx
      · cases hx
    · cases hx
  case box e y =>
    apply fin
    split at hx
    · exact pOf_fr (fun v t hv => newPtr_fr h hw hv) hx
    · cases hx
  case build t ps =>
    apply fin
    split at hx
    · exact vOf_fr h hw (fun v hv => hv) hx
    · cases hx
  case buildSlice t n ps =>
    apply fin
    split at hx
    · exact pOf_fr (fun v t hv => buildSliceA_fr h hw hv) hx
    · cases hx
  case load t y =>
    apply fin
    split at hx
    · exact vOf_fr h hw (fun v hv => loadA_fr h hv) hx
    · cases hx
  case store t y z =>
    apply fin
    split at hx
    · exact uOf_fr (fun t ht => storeA_fr h hw ht) hx
    · cases hx
  case nilCheck y =>
    apply fin
    split at hx
    · obtain rfl := Option.some.inj hx; exact ⟨_, s, s', rfl, rfl, h, Keeps.refl hw⟩
    · obtain rfl := Option.some.inj hx; exact ⟨_, s, s', rfl, rfl, h, Keeps.refl hw⟩
    · cases hx
  case binOp op t y z yt =>
    apply fin
    split at hx
    · exact vOf_fr h hw (fun v hv => hv) hx
    · cases hx
  case unOp op t y =>
    apply fin
    split at hx
    · exact vOf_fr h hw (fun v hv => hv) hx
    · cases hx
  case convert a b y =>
    apply fin
    split at hx
    · exact pOf_fr (fun v t hv => convA_fr h hw hv) hx
    · cases hx
  case makeFunc fn as bs =>
    cases fn <;> simp only at hx fin ⊢ <;> try (cases hx; done)
    apply fin
    split at hx
    · obtain rfl := Option.some.inj hx; exact ⟨_, s, s', rfl, rfl, h, Keeps.refl hw⟩
    · cases hx
  case makeMap t r =>
    cases r with
    | some _ => simp at hx
    | none =>
      simp only at hx fin ⊢
      apply fin
      rw [h.room, h.next]
      split at hx
      · rename_i hr
        rw [if_pos hr]
        obtain rfl := Option.some.inj hx
        obtain ⟨h1, h2⟩ := h.new hw hr (.map [])
        exact ⟨_, _, _, rfl, rfl, h1, h2⟩
      · cases hx
  case makeSlice t y z =>
    apply fin
    split at hx
    · exact pOf_fr (fun v t hv => makeSliceA_fr h hw hv) hx
    · cases hx
  case makeInterface t y =>
    apply fin
    split at hx
    · cases hx
    · obtain rfl := Option.some.inj hx; exact ⟨_, s, s', rfl, rfl, h, Keeps.refl hw⟩
    · cases hx
  case slice t y lo hi mx =>
    apply fin
    split at hx
    · exact vOf_fr h hw (fun v hv => sliceA_fr h hv) hx
    · cases hx
  case fieldAddr t y i =>
    apply fin
    split at hx
    · exact vOf_fr h hw (fun v hv => hv) hx
    · cases hx
  case field t y i =>
    apply fin
    split at hx
    · exact vOf_fr h hw (fun v hv => hv) hx
    · cases hx
  case indexAddr t y z =>
    apply fin
    split at hx
    · exact vOf_fr h hw (fun v hv => hv) hx
    · cases hx
  case index t y z =>
    apply fin
    split at hx
    · exact vOf_fr h hw (fun v hv => hv) hx
    · cases hx
  case lookup t y z ok =>
    apply fin
    split at hx
    · exact vOf_fr h hw (fun v hv => lookupA_fr h hv) hx
    · cases hx
  case mapUpdate t y z u =>
    apply fin
    split at hx
    · exact uOf_fr (fun t ht => mapUpdateA_fr h hw ht) hx
    · cases hx
  case extract y i =>
    apply fin
    split at hx
    · exact vOf_fr h hw (fun v hv => hv) hx
    · cases hx
  case call c =>
    obtain ⟨callee, args, ts⟩ := c
    split at hx
    case h_2 => cases hx
    rename_i l hl
    cases callee with
    | invoke y m => cases hx
    | value y =>
      simp only at hx
      split at hx
      · rename_i g as bs hy
        obtain rfl := Option.some.inj hx
        simp only [FrAR, aop, hl, hy]
      · cases hx
    | builtin b =>
      simp only [hl] at hx fin
      apply fin
      unfold builtinA at hx ⊢
      split at hx
      · exact vOf_fr h hw (fun v hv => lenA_fr h hv) hx
      · exact pOf_fr (fun v t hv => appendA_fr h hw hv) hx
      · exact pOf_fr (fun v t hv => copyA_fr h hw hv) hx
      · exact pOf_fr (fun v t hv => clearA_fr h hw hv) hx
      · exact vOf_fr h hw (fun v hv => hv) hx
      · exact vOf_fr h hw (fun v hv => hv) hx
      · cases hx

end Go.Cl
